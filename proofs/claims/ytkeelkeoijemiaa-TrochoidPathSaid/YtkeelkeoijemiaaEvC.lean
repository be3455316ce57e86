/- The state of the evaluator and the machine's: the invariant. -/
import Derived.Test.YtkeelkeoijemiaaEvB
namespace Go.Proofs.Ytkeelkeoijemiaa.Ev
open Go Go.RowKit

structure IOw where
  p : Nat
  B : Nat
  d : Nat
  n : Nat
structure Gh where
  w0 : World
  ok0 : Nat → Prop
  ios : List IOw

/-- An entry and its block. -/
structure ER (G : Gh) (w : World) (ok : Nat → Prop) (R : Nat → Nat → Option (Nat × Nat)) (nm : Nat) (e : Ent) (B d : Nat) : Prop where
  at_ : R nm e.gen = some (B, d)
  body : ∃ c el vs, w.heap[B]? = some (.cells c el (0, 0)) ∧ VRs w ok R e.cells vs ∧ (∀ i, i < vs.length → c[d + i]? = vs[i]?) ∧ (vs = [] ∨ d + vs.length ≤ c.size)
  fro : e.frozen = true → ok B
  own : e.frozen = false → ¬ ok B
  base : G.w0.heap.size ≤ B ∨ e.gen = 0
  io : e.gen = 0 → e.frozen = false ∧ ∃ x ∈ G.ios, x.p = nm ∧ x.B = B ∧ x.d = d ∧ x.n = e.cells.length

structure SR (G : Gh) (st : St) (a : Act) (w : World) (ok : Nat → Prop) (R : Nat → Nat → Option (Nat × Nat)) (lim : Nat → Prop) : Prop where
  os : w.os = G.w0.os
  tape : w.tape = G.w0.tape
  output : w.output = G.w0.output
  size : G.w0.heap.size ≤ w.heap.size
  low : ∀ k, k < G.w0.heap.size → (∀ x ∈ G.ios, x.B ≠ k) → w.heap[k]? = G.w0.heap[k]?
  ioK : ∀ x ∈ G.ios, ∃ c c0 el fr, G.w0.heap[x.B]? = some (.cells c0 el fr) ∧ w.heap[x.B]? = some (.cells c el fr) ∧ c.size = c0.size ∧ ∀ i, (i < x.d ∨ x.d + x.n ≤ i) → c[i]? = c0[i]?
  okLt : ∀ b, ok b → b < w.heap.size
  okLow : ∀ b, ok b → G.ok0 b ∨ G.w0.heap.size ≤ b
  okUp : ∀ b, G.ok0 b → ok b
  ents : ∀ nm e, st.ent nm = some e → ∃ B d, ER G w ok R nm e B d
  apart : ∀ n n' e e' p p', n ≠ n' → st.ent n = some e → st.ent n' = some e' → R n e.gen = some p → R n' e'.gen = some p' → e.frozen = false → p.1 ≠ p'.1
  slots : VRs w ok R st.sl a.tmps.toList
  defers : a.defers = []
  fresh : ∀ nm g, R nm g ≠ none → lim g

theorem getD_set_some {en : List (Option Ent)} {n m : Nat} {x : Option Ent} {e : Ent} (h : (en.set n x).getD m none = some e) : (m = n ∧ x = some e) ∨ (m ≠ n ∧ en.getD m none = some e) := by
  simp only [List.getD_eq_getElem?_getD, List.getElem?_set] at h ⊢
  by_cases hm : n = m
  · subst hm
    by_cases hl : n < en.length
    · simp [hl] at h; exact .inl ⟨rfl, h⟩
    · simp [hl] at h
  · simp [hm] at h; exact .inr ⟨fun e => hm e.symm, h⟩
theorem setUpd_some : ∀ (u : List (Nat × Option Ent)) (en : List (Option Ent)) (m : Nat) (e : Ent), (setUpd en u).getD m none = some e → (m, some e) ∈ u ∨ (m ∉ u.map (·.1) ∧ en.getD m none = some e)
  | [], en, m, e, h => .inr ⟨by simp, h⟩
  | (n, x) :: r, en, m, e, h => by
    rcases setUpd_some r (en.set n x) m e h with h | ⟨h1, h2⟩
    · exact .inl (by simp [h])
    · rcases getD_set_some h2 with ⟨rfl, rfl⟩ | ⟨h3, h4⟩
      · exact .inl (by simp)
      · exact .inr ⟨by simp at h1 ⊢; exact ⟨h3, h1⟩, h4⟩

variable {P : Program} {G : Gh} {st : St} {a : Act} {w : World} {ok : Nat → Prop} {R : Nat → Nat → Option (Nat × Nat)} {lim : Nat → Prop}

theorem SR.lenEq (h : SR G st a w ok R lim) : a.tmps.size = st.sl.length := by
  have := h.slots.length; simpa using this

theorem VRs.getD {ms : List MV} {vs : List Value} (h : VRs w ok R ms vs) (t : Nat) : VR w ok R (ms.getD t undefM) (vs.getD t undef) := by
  cases hm : ms[t]? with
  | none =>
    have hl : ms.length ≤ t := by simpa using hm
    have : vs[t]? = none := by rw [List.getElem?_eq_none_iff, h.length]; exact hl
    simp only [List.getD_eq_getElem?_getD, hm, this, Option.getD_none]; rfl
  | some m =>
    obtain ⟨v, hv, hr⟩ := h.get t m hm
    simp only [List.getD_eq_getElem?_getD, hm, hv, Option.getD_some]; exact hr
theorem SR.slot (h : SR G st a w ok R lim) (t : Nat) : VR w ok R (st.slot t) (a.tmps.getD t undef) := by
  have := h.slots.getD t
  simpa [St.slot] using this
theorem SR.ev (h : SR G st a w ok R lim) : ∀ x : Operand, VR w ok R (st.ev x) (a.eval x)
  | .tmp t => h.slot t
  | .const v => VR_cv v
  | .global _ => rfl
  | .func _ => ⟨[], rfl, VRs.nil⟩

theorem ER.has {nm B d : Nat} {e : Ent} (h : ER G w ok R nm e B d) : hasCells w B 0 := by
  obtain ⟨c, el, vs, h1, _⟩ := h.body
  exact ⟨c, el, _, h1, Nat.zero_le _⟩
theorem ER.lt {nm B d : Nat} {e : Ent} (h : ER G w ok R nm e B d) : B < w.heap.size := by
  obtain ⟨c, el, vs, h1, _⟩ := h.body
  rcases Nat.lt_or_ge B w.heap.size with h | h
  · exact h
  · simp [Array.getElem?_eq_none h] at h1

/-- An entry whose block nobody touches. -/
theorem ER.keep {w' : World} {ok' : Nat → Prop} {R' : Nat → Nat → Option (Nat × Nat)} {nm B d : Nat} {e : Ent} (h : ER G w ok R nm e B d) (hx : Ext ok w w') (ho : ∀ b, ok b → ok' b)
    (hR : ∀ n g p, R n g = some p → R' n g = some p) (hB : w'.heap[B]? = w.heap[B]?) (hm : e.frozen = false → ¬ ok' B) : ER G w' ok' R' nm e B d := by
  obtain ⟨c, el, vs, h1, h2, h3, h4⟩ := h.body
  exact ⟨hR _ _ _ h.at_, ⟨c, el, vs, hB.trans h1, VRs.mono hx ho hR _ _ h2, h3, h4⟩, fun hf => ho _ (h.fro hf), hm, h.base, h.io⟩

/-- A slot is set to what is related. -/
theorem slots_put {m : MV} {v : Value} (h : VRs w ok R st.sl a.tmps.toList) (dst : Option Tmp) (hv : VR w ok R m v) :
    VRs w ok R (match dst with | some d => st.sl.set d m | none => st.sl) (a.put dst v).tmps.toList := by
  cases dst with
  | none => exact h
  | some d => simp only [Act.put, Array.toList_setIfInBounds]; exact h.set d hv
theorem defers_put {dst : Option Tmp} {v : Value} (h : a.defers = []) : (a.put dst v).defers = [] := by cases dst <;> exact h

/-- A value and no more. -/
theorem SR.val (h : SR G st a w ok R lim) {m : MV} {v : Value} (dst : Option Tmp) (hv : VR w ok R m v) (rd : List Nat) : SR G (st.put dst { val := m, rd := rd }) (a.put dst v) w ok R lim :=
  { h with slots := slots_put h.slots dst hv, defers := defers_put h.defers, ents := h.ents, apart := h.apart }
theorem SR.skip (h : SR G st a w ok R lim) (dst : Option Tmp) : SR G (st.skip dst) (a.put dst undef) w ok R lim :=
  { h with slots := slots_put h.slots dst rfl, defers := defers_put h.defers, ents := h.ents, apart := h.apart }

theorem Ext.alloc (w : World) (ok : Nat → Prop) (o : Obj) (h : ∀ b, ok b → b < w.heap.size) : Ext ok w (w.alloc o) :=
  ⟨fun b hb => Below.heap_alloc _ _ _ (h b hb), fun b n ⟨c, el, fr, h1, h2⟩ => ⟨c, el, fr, by
    have : b < w.heap.size := by
      rcases Nat.lt_or_ge b w.heap.size with h | h
      · exact h
      · simp [Array.getElem?_eq_none h] at h1
    rw [Below.heap_alloc _ _ _ this]; exact h1, h2⟩⟩
theorem heap_alloc_self (w : World) (o : Obj) : (w.alloc o).heap[w.heap.size]? = some o := by
  show (w.heap.push o)[w.heap.size]? = some o
  simp

/-- R with one place more. -/
def addR (R : Nat → Nat → Option (Nat × Nat)) (n g : Nat) (p : Nat × Nat) : Nat → Nat → Option (Nat × Nat) := fun n' g' => if n' = n ∧ g' = g then some p else R n' g'
theorem addR_self {n g : Nat} {p : Nat × Nat} : addR R n g p n g = some p := by simp [addR]
theorem addR_old {n g : Nat} {p : Nat × Nat} (hn : R n g = none) : ∀ n' g' q, R n' g' = some q → addR R n g p n' g' = some q := by
  intro n' g' q h
  unfold addR
  rw [if_neg]
  · exact h
  · rintro ⟨rfl, rfl⟩; rw [hn] at h; cases h

/-- A new row: entries may go, one comes. -/
theorem SR.new (h : SR G st a w ok R lim) {m : MV} {v : Value} (dst : Option Tmp) {d g : Nat} (hg : g ≠ 0) (hR : R d g = none) {cells : List MV} {vs : List Value} (c : Array Value) (el : TypeId)
    (hc : VRs w ok R cells vs) (hcs : ∀ i, i < vs.length → c[i]? = vs[i]?) (kill : List (Nat × Option Ent)) (hk : ∀ x ∈ kill, x.2 = none) (rd : List Nat)
    (hv : VR (w.alloc (.cells c el)) ok (addR R d g (w.heap.size, 0)) m v) :
    SR G (st.put dst { val := m, upd := kill ++ [(d, some ⟨g, cells, false⟩)], rd := rd }) (a.put dst v) (w.alloc (.cells c el)) ok (addR R d g (w.heap.size, 0)) (fun x => lim x ∨ x = g) := by
  have hx : Ext ok w (w.alloc (.cells c el)) := Ext.alloc _ _ _ h.okLt
  have hnok : ¬ ok w.heap.size := fun hb => Nat.lt_irrefl _ (h.okLt _ hb)
  have cases_ : ∀ n e, (st.put dst { val := m, upd := kill ++ [(d, some ⟨g, cells, false⟩)], rd := rd }).ent n = some e → (n = d ∧ e = ⟨g, cells, false⟩) ∨ (n ≠ d ∧ st.ent n = some e) := by
    intro n e he
    rcases setUpd_some _ _ _ _ he with h1 | ⟨h1, h2⟩
    · rcases List.mem_append.1 h1 with h1 | h1
      · have := hk _ h1; cases this
      · simp at h1; exact .inl h1
    · simp at h1; exact .inr ⟨h1.2, h2⟩
  refine { os := h.os, tape := h.tape, output := h.output, size := by simp; exact Nat.le_succ_of_le h.size, low := ?_, ioK := ?_, okLt := fun b hb => by simp; exact Nat.lt_succ_of_lt (h.okLt b hb), okLow := h.okLow, okUp := h.okUp, ents := ?_, apart := ?_, slots := ?_, defers := defers_put h.defers, fresh := ?_ }
  · intro k hk' hk2
    rw [Below.heap_alloc _ _ _ (Nat.lt_of_lt_of_le hk' h.size)]; exact h.low k hk' hk2
  · intro x hx'
    obtain ⟨c1, c0, el1, fr, h1, h2, h3, h4⟩ := h.ioK x hx'
    refine ⟨c1, c0, el1, fr, h1, ?_, h3, h4⟩
    have : x.B < w.heap.size := by
      rcases Nat.lt_or_ge x.B w.heap.size with h | h
      · exact h
      · simp [Array.getElem?_eq_none h] at h2
    rw [Below.heap_alloc _ _ _ this]; exact h2
  · intro n e he
    rcases cases_ n e he with ⟨rfl, rfl⟩ | ⟨_, he⟩
    · refine ⟨w.heap.size, 0, addR_self, ⟨c, el, vs, heap_alloc_self _ _, VRs.mono hx (fun _ h => h) (addR_old hR) _ _ hc, fun i hi => by simpa using hcs i hi, ?_⟩, fun hf => (Bool.noConfusion hf), fun _ => hnok, .inl h.size, fun h0 => absurd h0 hg⟩
      cases vs with
      | nil => exact .inl rfl
      | cons v0 vs0 =>
        right
        have := hcs vs0.length (by simp)
        rw [Nat.zero_add]
        rcases Nat.lt_or_ge vs0.length c.size with h' | h'
        · simp; omega
        · rw [Array.getElem?_eq_none h'] at this
          have h9 : (v0 :: vs0)[vs0.length]? ≠ none := by simp
          exact absurd this.symm h9
    · obtain ⟨B, d', hE⟩ := h.ents n e he
      exact ⟨B, d', hE.keep hx (fun _ h => h) (addR_old hR) (Below.heap_alloc _ _ _ hE.lt) hE.own⟩
  · intro n n' e e' p p' hne he he' hp hp' hf
    rcases cases_ n e he with ⟨rfl, rfl⟩ | ⟨_, he1⟩
    · rcases cases_ n' e' he' with ⟨rfl, rfl⟩ | ⟨_, he1'⟩
      · exact absurd rfl hne
      · obtain ⟨B, d', hE⟩ := h.ents n' e' he1'
        have e1 : p = (w.heap.size, 0) := by have := hp.symm.trans (addR_self (R := R)); exact Option.some.inj this
        have e2 : p' = (B, d') := by have := hp'.symm.trans (addR_old hR _ _ _ hE.at_); exact Option.some.inj this
        subst e1 e2
        exact fun e => by have := hE.lt; simp at e; omega
    · obtain ⟨B, d', hE⟩ := h.ents n e he1
      have e1 : p = (B, d') := by have := hp.symm.trans (addR_old hR _ _ _ hE.at_); exact Option.some.inj this
      rcases cases_ n' e' he' with ⟨rfl, rfl⟩ | ⟨_, he1'⟩
      · have e2 : p' = (w.heap.size, 0) := by have := hp'.symm.trans (addR_self (R := R)); exact Option.some.inj this
        subst e1 e2
        exact fun e => by have := hE.lt; simp at e; omega
      · obtain ⟨B', d'', hE'⟩ := h.ents n' e' he1'
        have e2 : p' = (B', d'') := by have := hp'.symm.trans (addR_old hR _ _ _ hE'.at_); exact Option.some.inj this
        subst e1 e2
        exact h.apart n n' e e' _ _ hne he1 he1' hE.at_ hE'.at_ hf
  · exact slots_put (VRs.mono hx (fun _ h => h) (addR_old hR) _ _ h.slots) dst hv
  · intro n' g' hne
    unfold addR at hne
    split at hne
    · rename_i hh; exact .inr hh.2
    · exact .inl (h.fresh _ _ hne)
end Go.Proofs.Ytkeelkeoijemiaa.Ev
