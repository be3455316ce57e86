/- A region that draws its order: operations that are apart may change places. -/
import Derived.Test.YtkeelkeoijemiaaEvJ
namespace Go.Proofs.Ytkeelkeoijemiaa.Ev
open Go Go.RowKit

variable {P : Program} {T : Tab} {st st' : St} {o : Oper} {g : Nat} {r : Res}

def core (e : Ent) : Nat × List MV := (e.gen, e.cells)
def coreEq (x y : Option Ent) : Prop := x.map core = y.map core
theorem coreEq.some {x y : Option Ent} {e : Ent} (h : coreEq x y) (hx : x = some e) : ∃ e', y = some e' ∧ e'.gen = e.gen ∧ e'.cells = e.cells := by
  subst hx
  cases y with
  | none => simp [coreEq] at h
  | some e' => simp [coreEq, core] at h; exact ⟨e', rfl, h.1.symm, h.2.symm⟩

mutual
theorem freeze_frame {en en' : Nat → Option Ent} : ∀ (k : Nat) (m m' : MV) (ns : List Nat), freeze en k m = some (m', ns) → (∀ nm ∈ ns, coreEq (en nm) (en' nm)) → freeze en' k m = some (m', ns)
  | 0, _, _, _, e, _ => by simp [freeze] at e
  | k + 1, .sc v, m', ns, e, _ => e
  | k + 1, .fs n c cs, m', ns, e, _ => e
  | k + 1, .any, m', ns, e, _ => by simp [freeze] at e
  | k + 1, .cp cs, m', ns, e, _ => e
  | k + 1, .agg cs, m', ns, e, h => by
    simp only [freeze, Option.map_eq_some_iff] at e ⊢
    obtain ⟨⟨y, z⟩, h1, h2⟩ := e; cases h2; exact ⟨_, freezes_frame k cs y z h1 h, rfl⟩
  | k + 1, .tup cs, m', ns, e, h => by
    simp only [freeze, Option.map_eq_some_iff] at e ⊢
    obtain ⟨⟨y, z⟩, h1, h2⟩ := e; cases h2; exact ⟨_, freezes_frame k cs y z h1 h, rfl⟩
  | k + 1, .fn f cs, m', ns, e, h => by
    simp only [freeze, Option.map_eq_some_iff] at e ⊢
    obtain ⟨⟨y, z⟩, h1, h2⟩ := e; cases h2; exact ⟨_, freezes_frame k cs y z h1 h, rfl⟩
  | k + 1, .ptr nm g off, m', ns, e, h => by
    simp only [freeze] at e ⊢
    split at e
    · rename_i en0 he
      split at e
      · rename_i hg
        simp only [Option.map_eq_some_iff] at e
        obtain ⟨⟨y, z⟩, h1, h2⟩ := e; cases h2
        obtain ⟨e', he', hg', hc'⟩ := (h nm (by simp)).some he
        rw [he']; simp only
        rw [if_pos ⟨hg'.trans hg.1, hg.2⟩, hc', freezes_frame k _ y z h1 fun n hn => h n (by simp [hn])]; rfl
      · cases e
    · cases e
  | k + 1, .row nm g off len cap sz, m', ns, e, h => by
    simp only [freeze] at e ⊢
    split at e
    · rename_i en0 he
      split at e
      · rename_i hg
        simp only [Option.map_eq_some_iff] at e
        obtain ⟨⟨y, z⟩, h1, h2⟩ := e; cases h2
        obtain ⟨e', he', hg', hc'⟩ := (h nm (by simp)).some he
        rw [he']; simp only
        rw [if_pos ⟨hg'.trans hg.1, hg.2.1, by rw [hc']; exact hg.2.2⟩, hc', freezes_frame k _ y z h1 fun n hn => h n (by simp [hn])]; rfl
      · cases e
    · cases e
theorem freezes_frame {en en' : Nat → Option Ent} : ∀ (k : Nat) (ms ms' : List MV) (ns : List Nat), freezes en k ms = some (ms', ns) → (∀ nm ∈ ns, coreEq (en nm) (en' nm)) → freezes en' k ms = some (ms', ns)
  | 0, _, _, _, e, _ => by simp [freezes] at e
  | k + 1, [], ms', ns, e, _ => e
  | k + 1, m :: ms, ms', ns, e, h => by
    simp only [freezes] at e ⊢
    split at e
    · rename_i x y h1 h2
      cases e
      rw [freeze_frame k m x.1 x.2 h1 fun n hn => h n (by simp [hn]), freezes_frame k ms y.1 y.2 h2 fun n hn => h n (by simp [hn])]
    · cases e
end

theorem behind_frame {en en' : Nat → Option Ent} {m : MV} {cs : List MV} (e : behind en m = some cs) (h : ∀ nm ∈ nameOf m, coreEq (en nm) (en' nm)) : behind en' m = some cs := by
  cases m with
  | cp c => exact e
  | ptr nm g off =>
    simp only [behind] at e ⊢
    split at e
    · rename_i en0 he
      obtain ⟨e', he', hg', hc'⟩ := (h nm (by simp [nameOf])).some he
      rw [he']; simp only
      rw [hg', hc']; exact e
    · cases e
  | _ => simp [behind] at e
theorem rowCells_frame {en en' : Nat → Option Ent} {m : MV} {cs : Nat × List MV} (e : rowCells en m = some cs) (h : ∀ nm ∈ nameOf m, coreEq (en nm) (en' nm)) : rowCells en' m = some cs := by
  cases m with
  | fs _ _ _ => exact e
  | row nm g off len cap sz =>
    simp only [rowCells] at e ⊢
    split at e
    · rename_i en0 he
      obtain ⟨e', he', hg', hc'⟩ := (h nm (by simp [nameOf])).some he
      rw [he']; simp only
      rw [hg', hc']; exact e
    · cases e
  | _ => simp [rowCells] at e
theorem srcCells_frame {en en' : Nat → Option Ent} {m : MV} {cs : Nat × List MV} (e : srcCells en m = some cs) (h : ∀ nm ∈ nameOf m, coreEq (en nm) (en' nm)) : srcCells en' m = some cs := by
  unfold srcCells at e ⊢
  split at e
  · exact e
  · exact rowCells_frame e h

theorem prep_frame {en en' : Nat → Option Ent} {io : List Nat} : ∀ (ms : List MV) (i : Nat) (as : List MV) (fz : List Nat) (ioL : List (Nat × Nat × Nat)), prepArgs en io i ms = some (as, fz, ioL) →
    (∀ nm ∈ fz, coreEq (en nm) (en' nm)) → (∀ t ∈ ioL, en t.1 = en' t.1) → prepArgs en' io i ms = some (as, fz, ioL)
  | [], i, as, fz, ioL, e, _, _ => e
  | m :: ms, i, as, fz, ioL, e, hf, hi => by
    simp only [prepArgs] at e ⊢
    split at e
    · cases e
    · rename_i as1 fz1 io1 h1
      split at e
      · rename_i hio
        split at e
        · rename_i nm g off len cap sz
          split at e
          · rename_i en0 he
            split at e
            · rename_i hh
              cases e
              rw [prep_frame ms (i + 1) as1 fz io1 h1 hf fun t ht => hi t (by simp [ht])]
              simp only [if_pos hio, ← hi (nm, off, len * sz) (by simp), he, if_pos hh]
            · cases e
          · cases e
        · cases e
      · rename_i hio
        split at e
        · rename_i m' f hfr
          cases e
          rw [prep_frame ms (i + 1) as1 fz1 ioL h1 (fun n hn => hf n (by simp [hn])) hi]
          simp only [if_neg hio, freeze_frame _ _ _ _ hfr fun n hn => hf n (by simp [hn])]
        · cases e

theorem back_frame {en en' : Nat → Option Ent} : ∀ (ioL : List (Nat × Nat × Nat)) (outs : List (List MV)), (∀ t ∈ ioL, en t.1 = en' t.1) → backRows en' ioL outs = backRows en ioL outs
  | [], [], _ => rfl
  | [], _ :: _, _ => rfl
  | _ :: _, [], _ => rfl
  | (nm, off, n) :: ioL, o :: os, h => by
    simp only [backRows, ← h (nm, off, n) (by simp), back_frame ioL os fun t ht => h t (by simp [ht])]

theorem pureOp_frame {ev ev' : Operand → MV} (hs : ∀ cs b, o.op ≠ .select cs b) (h : ∀ x ∈ o.op.operands, ev x = ev' x) : pureOp P o ev = pureOp P o ev' := by
  unfold pureOp
  have e1 : (o.op.operands.toList.all fun x => (toVal (ev x)).isSome) = (o.op.operands.toList.all fun x => (toVal (ev' x)).isSome) := by
    rw [Bool.eq_iff_iff, List.all_eq_true, List.all_eq_true]
    exact ⟨fun hh x hx => by rw [← h x (by simpa using hx)]; exact hh x hx, fun hh x hx => by rw [h x (by simpa using hx)]; exact hh x hx⟩
  have e2 : execOp (fun x => (toVal (ev x)).getD undef) o = execOp (fun x => (toVal (ev' x)).getD undef) o := execOp_congr o hs fun x hx => by rw [h x hx]
  have e3 : eqOp P o ev = eqOp P o ev' := by
    unfold eqOp
    split
    · rename_i t x y p ho
      rw [h x (by simp [ho, Op.operands]), h y (by simp [ho, Op.operands])]
    · rename_i t x y p ho
      rw [h x (by simp [ho, Op.operands]), h y (by simp [ho, Op.operands])]
    · rfl
  rw [e1, e2, e3]

theorem append_frame {d : Nat} {en en' : Nat → Option Ent} {el : TypeId} {s x : MV} (e : evalAppend P d g en el s x = some r) (hr : ∀ nm ∈ r.rd, coreEq (en nm) (en' nm)) (hu : ∀ nm ∈ r.upd.map (·.1), en nm = en' nm) : evalAppend P d g en' el s x = some r := by
  unfold evalAppend at e ⊢
  split at e
  · rename_i sz by_ z n new hs hb hz hsrc
    split at e
    · cases e
    · rename_i hc
      have hsrc' : ∀ nm ∈ nameOf x, nm ∈ r.rd := by
        split at e
        · split at e
          · cases e; exact fun nm h => h
          · split at e
            · cases e; exact fun nm h => h
            · cases e
        · split at e
          · split at e
            · cases e; exact fun nm h => List.mem_cons_of_mem _ h
            · cases e
          · cases e
        · cases e
      rw [hs, hb, hz, srcCells_frame hsrc fun nm h => hr nm (hsrc' nm h)]
      simp only
      rw [if_neg hc]
      split at e
      · exact e
      · rename_i nm g' off len cap sz'
        split at e
        · rename_i en0 he
          split at e
          · rename_i hh
            cases e
            have := hu nm (by simp)
            rw [← this, he]; simp only
            rw [if_pos hh]
          · cases e
        · cases e
      · cases e
  · cases e

/-- What an operation does hangs on what it looks at alone. -/
theorem evalOp_frame (e : evalOp P T o g st = some r) (hx : ∀ x ∈ o.op.operands, st.ev x = st'.ev x) (hr : ∀ nm ∈ r.rd, coreEq (st.ent nm) (st'.ent nm)) (hu : ∀ nm ∈ r.upd.map (·.1), st.ent nm = st'.ent nm) : evalOp P T o g st' = some r := by
  have hsel : ∀ cs b, o.op ≠ .select cs b := by
    intro cs b ho
    simp [evalOp, ho] at e
  have hp := pureOp_frame (P := P) hsel hx
  cases ho : o.op with
  | move x | assign x => simp only [evalOp, ho] at e ⊢; rw [← hx x (by simp [ho, Op.operands])]; exact e
  | pick c x y =>
    simp only [evalOp, ho] at e ⊢
    rw [← hx c (by simp [ho, Op.operands]), ← hx x (by simp [ho, Op.operands]), ← hx y (by simp [ho, Op.operands])]; exact e
  | alloc t => simp only [evalOp, ho] at e ⊢; exact e
  | box t x => simp only [evalOp, ho] at e ⊢; rw [← hx x (by simp [ho, Op.operands])]; exact e
  | load t x =>
    simp only [evalOp, ho] at e ⊢
    rw [← hx x (by simp [ho, Op.operands])]
    split at e
    · rename_i cs hb
      split at e
      · rename_i v hv
        cases e
        simp only [behind_frame hb hr, hv]
      · cases e
    · cases e
  | store t p x =>
    simp only [evalOp, ho] at e ⊢
    rw [← hx p (by simp [ho, Op.operands]), ← hx x (by simp [ho, Op.operands])]
    split at e
    · rename_i nm gen off n cs hm hn hc
      split at e
      · rename_i en he
        split at e
        · rename_i hh
          cases e
          have := hu nm (by simp)
          rw [← this, he]; simp only
          rw [if_pos hh]
        · cases e
      · cases e
    · cases e
  | nilCheck x => simp only [evalOp, ho] at e ⊢; rw [← hx x (by simp [ho, Op.operands])]; exact e
  | binOp b t x y t2 => simp only [evalOp, ho] at e ⊢; rw [← hp]; exact e
  | unOp u t x => simp only [evalOp, ho] at e ⊢; rw [← hp]; exact e
  | index t x i => simp only [evalOp, ho] at e ⊢; rw [← hp]; exact e
  | convert s d x => simp only [evalOp, ho] at e ⊢; rw [← hp]; exact e
  | fieldAddr s x f => simp only [evalOp, ho] at e ⊢; rw [← hx x (by simp [ho, Op.operands])]; exact e
  | field s x f => simp only [evalOp, ho] at e ⊢; rw [← hx x (by simp [ho, Op.operands])]; exact e
  | indexAddr t x i => simp only [evalOp, ho] at e ⊢; rw [← hx x (by simp [ho, Op.operands]), ← hx i (by simp [ho, Op.operands])]; exact e
  | build t ps =>
    have : ps.toList.map (fun p => (p.1, st'.ev p.2)) = ps.toList.map fun p => (p.1, st.ev p.2) := List.map_congr_left fun p hpp => by
      rw [hx p.2 (by simp only [ho, Op.operands, List.mem_toArray, List.mem_map]; exact ⟨p, hpp, rfl⟩)]
    simp only [evalOp, ho] at e ⊢; rw [this]; exact e
  | buildSlice t n ps =>
    have : ps.toList.map (fun p => (p.1, st'.ev p.2)) = ps.toList.map fun p => (p.1, st.ev p.2) := List.map_congr_left fun p hpp => by
      rw [hx p.2 (by simp only [ho, Op.operands, List.mem_toArray, List.mem_map]; exact ⟨p, hpp, rfl⟩)]
    simp only [evalOp, ho] at e ⊢; rw [this]; exact e
  | makeSlice t l c => simp only [evalOp, ho] at e ⊢; rw [← hx l (by simp [ho, Op.operands]), ← hx c (by simp [ho, Op.operands])]; exact e
  | slice t x lo hi mx =>
    have h1 := hx x (by simp [ho, Op.operands])
    have h2 : lo.map st'.ev = lo.map st.ev := by cases lo with | none => rfl | some y => simp [hx y (by simp [ho, Op.operands])]
    have h3 : hi.map st'.ev = hi.map st.ev := by cases hi with | none => rfl | some y => simp [hx y (by simp [ho, Op.operands])]
    have h4 : mx.map st'.ev = mx.map st.ev := by cases mx with | none => rfl | some y => simp [hx y (by simp [ho, Op.operands])]
    simp only [evalOp, ho] at e ⊢; rw [← h1, h2, h3, h4, ← hp]; exact e
  | extract x i => simp only [evalOp, ho] at e ⊢; rw [← hx x (by simp [ho, Op.operands])]; exact e
  | makeFunc fn first caps =>
    cases fn with
    | func f =>
      obtain ⟨l⟩ := first
      cases l with
      | nil =>
        have : caps.toList.map st'.ev = caps.toList.map st.ev := List.map_congr_left fun y hy => (hx y (by simp [ho, Op.operands]; exact by simpa using hy)).symm
        simp only [evalOp, ho] at e ⊢; rw [this]; exact e
      | cons _ _ => simp [evalOp, ho] at e
    | _ => simp [evalOp, ho] at e
  | call c =>
    have hargs : ∀ x ∈ c.args.toList, st.ev x = st'.ev x := fun x hxx => hx x (by simp [ho, Op.operands, Call.operands]; exact .inr (by simpa using hxx))
    cases hc : c.callee with
    | value f =>
      have hf := hx f (by simp [ho, Op.operands, Call.operands, hc])
      have hm : c.args.toList.map st'.ev = c.args.toList.map st.ev := List.map_congr_left fun y hy => (hargs y hy).symm
      simp only [evalOp, ho, hc] at e ⊢
      rw [← hf, hm]
      split at e
      · rename_i f0 caps hfm
        unfold evalCall at e ⊢
        split at e
        · cases e
        · rename_i as fz ioL hpr
          split at e
          · rename_i hh
            split at e
            · cases e
            · rename_i res outs hres
              split at e
              · cases e
              · rename_i u hub
                cases e
                have hnames : ∀ (l : List (Nat × Nat × Nat)) (os : List (List MV)) (u : List (Nat × Option Ent)), backRows st.ent l os = some u → ∀ t ∈ l, t.1 ∈ u.map (·.1) := by
                  intro l
                  induction l with
                  | nil => intro os u _ t ht; cases ht
                  | cons t l ih =>
                    intro os u hb
                    obtain ⟨nm, off, n⟩ := t
                    cases os with
                    | nil => simp [backRows] at hb
                    | cons o1 os =>
                      simp only [backRows] at hb
                      split at hb
                      · rename_i en0 r0 he0 hr0
                        split at hb
                        · cases hb
                          intro t ht
                          rcases List.mem_cons.1 ht with rfl | ht
                          · simp
                          · exact List.mem_cons_of_mem _ (ih os r0 hr0 t ht)
                        · cases hb
                      · cases hb
                have hio : ∀ t ∈ ioL, st.ent t.1 = st'.ent t.1 := fun t ht => hu t.1 (hnames ioL outs u hub t ht)
                have hp1 := prep_frame _ 0 as fz ioL hpr (fun n hn => hr n (by simp [hn])) hio
                rw [hp1]; simp only
                rw [if_pos hh, hres]; simp only
                rw [back_frame ioL outs hio, hub]
          · cases e
      · cases e
    | invoke _ _ => simp [evalOp, ho, hc] at e
    | builtin b =>
      cases b with
      | len =>
        simp only [evalOp, ho, hc] at e ⊢
        split at e
        · rename_i x t hl htl
          rw [← hargs x (by rw [hl]; simp), ← hp]; exact e
        · cases e
      | append =>
        simp only [evalOp, ho, hc] at e ⊢
        split at e
        · rename_i s x t t2 tr d hl htl hd
          rw [← hargs s (by rw [hl]; simp), ← hargs x (by rw [hl]; simp)]
          split at e
          · rename_i h1 h2
            exact append_frame e hr hu
          · rename_i h1 h2
            exact append_frame e hr hu
          · cases e
        · cases e
      | max => simp only [evalOp, ho, hc] at e ⊢; rw [← hp]; exact e
      | min => simp only [evalOp, ho, hc] at e ⊢; rw [← hp]; exact e
      | _ => simp [evalOp, ho, hc] at e
  | _ => simp [evalOp, ho] at e
end Go.Proofs.Ytkeelkeoijemiaa.Ev
