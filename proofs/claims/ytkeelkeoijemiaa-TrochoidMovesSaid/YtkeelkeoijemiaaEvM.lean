/- A region that draws its order: all orders come to the same. -/
import Derived.Test.YtkeelkeoijemiaaEvL
namespace Go.Proofs.Ytkeelkeoijemiaa.Ev
open Go Go.RowKit

variable {P : Program} {T : Tab} {G : Gh} {ops : List Oper} {ck : Nat}

inductive Runs (P : Program) (T : Tab) (ops : List Oper) (ck : Nat) : St → List Item → St → Prop where
  | nil (s : St) : Runs P T ops ck s [] s
  | cons {s s1 s2 : St} {t : Item} {r : List Item} : step1 P T ops (ck + t.i) t.o s = some (t.l, s1) → Runs P T ops ck s1 r s2 → Runs P T ops ck s (t :: r) s2

theorem bubble {t : Item} {post : List Item} {sF : St} : ∀ (pre : List Item) (s : St), Runs P T ops ck s (pre ++ t :: post) sF → (∀ y ∈ pre, indep ops.toArray y.o t.o y.l t.l = true) →
    ∃ s1, step1 P T ops (ck + t.i) t.o s = some (t.l, s1) ∧ Runs P T ops ck s1 (pre ++ post) sF
  | [], s, .cons h hs, _ => ⟨_, h, hs⟩
  | y :: pre, s, .cons h hs, hi => by
    obtain ⟨s1', h1, h2⟩ := bubble pre _ hs fun z hz => hi z (by simp [hz])
    obtain ⟨s1, k1, k2⟩ := swap (hi y (by simp)) h h1
    exact ⟨s1, k1, .cons k2 h2⟩

theorem numbered_len : ∀ (i : Nat) (l : List Oper), (numbered i l).length = l.length
  | _, [] => rfl
  | i, o :: r => by simp [numbered, numbered_len (i + 1) r]

theorem evalLog_runs : ∀ (l : List Oper) (i : Nat) (bs : List Nat) (s sF : St) (log : List (Option Res)), bs.length = l.length → evalLog P T ops ck (numbered i l) s = some (sF, log) →
    log.length = l.length ∧ Runs P T ops ck s (items i l log bs) sF
  | [], i, bs, s, sF, log, _, e => by
    simp [numbered, evalLog] at e
    obtain ⟨rfl, rfl⟩ := e
    exact ⟨rfl, .nil _⟩
  | o :: l, i, bs, s, sF, log, hb, e => by
    cases bs with
    | nil => simp at hb
    | cons b bs =>
      simp only [numbered, evalLog] at e
      split at e
      · rename_i r s1 h1
        split at e
        · rename_i s2 l2 h2
          cases e
          obtain ⟨e1, e2⟩ := evalLog_runs l (i + 1) bs s1 sF l2 (by simpa using hb) h2
          exact ⟨by simp [e1], .cons (t := ⟨i, o, r, b⟩) h1 e2⟩
        · cases e
      · cases e

theorem items_get : ∀ (os : List Oper) (ls : List (Option Res)) (bs : List Nat) (i k : Nat), ls.length = os.length → bs.length = os.length → k < os.length →
    ∃ o l b, os[k]? = some o ∧ bs[k]? = some b ∧ (items i os ls bs)[k]? = some ⟨i + k, o, l, b⟩
  | [], _, _, _, k, _, _, h => by simp at h
  | o :: os, [], _, _, _, h, _, _ => by simp at h
  | o :: os, _ :: _, [], _, _, _, h, _ => by simp at h
  | o :: os, l :: ls, b :: bs, i, 0, _, _, _ => ⟨o, l, b, rfl, rfl, rfl⟩
  | o :: os, l :: ls, b :: bs, i, k + 1, h1, h2, h3 => by
    obtain ⟨o', l', b', e1, e2, e3⟩ := items_get os ls bs (i + 1) k (by simpa using h1) (by simpa using h2) (by simpa using h3)
    exact ⟨o', l', b', by simpa using e1, by simpa using e2, by simp only [items, List.getElem?_cons_succ, e3]; congr 2; omega⟩
theorem items_len : ∀ (os : List Oper) (ls : List (Option Res)) (bs : List Nat) (i : Nat), ls.length = os.length → bs.length = os.length → (items i os ls bs).length = os.length
  | [], _, _, _, _, _ => by simp [items]
  | o :: os, [], _, _, h, _ => by simp at h
  | o :: os, _ :: _, [], _, _, h => by simp at h
  | o :: os, l :: ls, b :: bs, i, h1, h2 => by simp [items, items_len os ls bs (i + 1) (by simpa using h1) (by simpa using h2)]
theorem items_sorted : ∀ (os : List Oper) (ls : List (Option Res)) (bs : List Nat) (i : Nat), (items i os ls bs).Pairwise (fun x y => x.i < y.i) ∧ ∀ t ∈ items i os ls bs, i ≤ t.i
  | [], _, _, _ => by simp [items]
  | o :: os, [], _, _ => by simp [items]
  | o :: os, _ :: _, [], _ => by simp [items]
  | o :: os, l :: ls, b :: bs, i => by
    obtain ⟨h1, h2⟩ := items_sorted os ls bs (i + 1)
    simp only [items]
    refine ⟨List.pairwise_cons.2 ⟨fun t ht => by have := h2 t ht; show i < t.i; omega, h1⟩, fun t ht => ?_⟩
    rcases List.mem_cons.1 ht with rfl | ht
    · exact Nat.le_refl _
    · have := h2 t ht; omega

theorem befEdges_bit {acc : List Nat} {j : Nat} : ∀ (l : List Edge), (befEdges acc l).testBit j = true → ∃ e ∈ l, Region.binds .any e = true ∧ (e.on = j ∨ (acc.getD e.on 0).testBit j = true)
  | [], h => by simp [befEdges] at h
  | e :: r, h => by
    simp only [befEdges] at h
    split at h
    · rename_i hb
      rw [Nat.testBit_or, Nat.testBit_or, Nat.testBit_two_pow, Bool.or_eq_true, Bool.or_eq_true] at h
      rcases h with (h | h) | h
      · exact ⟨e, by simp, hb, .inl (by simpa using h)⟩
      · exact ⟨e, by simp, hb, .inr h⟩
      · obtain ⟨e', h1, h2⟩ := befEdges_bit r h
        exact ⟨e', by simp [h1], h2⟩
    · obtain ⟨e', h1, h2⟩ := befEdges_bit r h
      exact ⟨e', by simp [h1], h2⟩

theorem befs_spec : ∀ (l : List Oper) (acc : List Nat), (befs acc l).length = acc.length + l.length ∧ (∀ k, k < acc.length → (befs acc l)[k]? = acc[k]?) ∧
    ∀ k o, l[k]? = some o → ∃ acc', (befs acc l)[acc.length + k]? = some (befEdges acc' o.after.toList) ∧ ∀ q, q < acc.length + k → acc'[q]? = (befs acc l)[q]?
  | [], acc => ⟨by simp [befs], fun k _ => rfl, fun k o h => by simp at h⟩
  | o :: r, acc => by
    obtain ⟨h1, h2, h3⟩ := befs_spec r (acc ++ [befEdges acc o.after.toList])
    simp only [befs]
    refine ⟨by rw [h1]; simp; omega, fun k hk => ?_, fun k o' hk => ?_⟩
    · rw [h2 k (by simp; omega), List.getElem?_append_left hk]
    · cases k with
      | zero =>
        simp at hk; subst hk
        refine ⟨acc, ?_, fun q hq => ?_⟩
        · rw [h2 _ (by simp)]; simp
        · rw [h2 q (by simp; omega), List.getElem?_append_left (by omega)]
      | succ k =>
        simp at hk
        obtain ⟨acc', e1, e2⟩ := h3 k o' hk
        refine ⟨acc', ?_, fun q hq => e2 q (by simp; omega)⟩
        rw [← e1]; congr 1; simp; omega

theorem edgesOk_spec : ∀ (l : List Oper) (i k : Nat) (o : Oper), edgesOk i l = true → l[k]? = some o → ∀ e ∈ o.after.toList, Region.binds .any e = true → e.on < i + k
  | [], _, _, _, _, h => by simp at h
  | o :: r, i, 0, o', h, hk => by
    simp at hk; subst hk
    simp only [edgesOk, Bool.and_eq_true, List.all_eq_true] at h
    intro e he hb
    have := h.1 e he
    simpa [hb] using this
  | o :: r, i, k + 1, o', h, hk => by
    simp only [edgesOk, Bool.and_eq_true] at h
    intro e he hb
    have := edgesOk_spec r (i + 1) k o' h.2 (by simpa using hk) e he hb
    omega

/-- What is listed holds all that comes ahead of it. -/
def Closed (all : List Item) (listed : Array Bool) : Prop := ∀ t ∈ all, listed.getD t.i false = true → ∀ j, t.b.testBit j = true → listed.getD j false = true

theorem draws_any {Q : Exit → Act → World → Prop} (hck : ck ≠ 0) (hT : TabOK P T) (hG : G.ok) {all : List Item} {sF : St} (hsort : all.Pairwise fun x y => x.i < y.i) (hall : ∀ t ∈ all, ops[t.i]? = some t.o) (hidx : ∀ i o, ops[i]? = some o → ∃ t ∈ all, t.i = i)
    (hpair : ∀ x ∈ all, ∀ y ∈ all, pairOk ops.toArray x y = true) (hedge : ∀ t ∈ all, ∀ e ∈ t.o.after.toList, Region.binds .any e = true → e.on < t.i)
    (hbit : ∀ t ∈ all, ∀ j, t.b.testBit j = true → ∃ e ∈ t.o.after.toList, Region.binds .any e = true ∧ (e.on = j ∨ ∃ u ∈ all, u.i = e.on ∧ u.b.testBit j = true))
    (hQ : ∀ a w ok R, SR G sF a w ok R (limAt ck ops.length) → Q .normal a w) :
    ∀ (fuel : Nat) (listed : Array Bool) (st : St) (a : Act) (w : World) (ok : Nat → Prop) (R : Nat → Nat → Option (Nat × Nat)), listed.size = ops.length → (all.filter fun t => !listed.getD t.i true).length ≤ fuel →
      Closed all listed → Runs P T ops ck st (all.filter fun t => !listed.getD t.i true) sF → SR G st a w ok R (fun g => g < ck ∨ ∃ j, listed.getD j false = true ∧ g = ck + j) →
      wpAny P .any ops.toArray Q fuel listed a w := by
  have ilt : ∀ t ∈ all, t.i < ops.length := fun t ht => (List.getElem?_eq_some_iff.1 (hall t ht)).1
  have done : ∀ (listed : Array Bool) (st : St) (a : Act) (w : World) (ok : Nat → Prop) (R : Nat → Nat → Option (Nat × Nat)), listed.size = ops.length → (all.filter fun t => !listed.getD t.i true) = [] →
      Runs P T ops ck st (all.filter fun t => !listed.getD t.i true) sF → SR G st a w ok R (fun g => g < ck ∨ ∃ j, listed.getD j false = true ∧ g = ck + j) → Q .normal a w := by
    intro listed st a w ok R hsz h0 hr hs
    rw [h0] at hr
    cases hr
    refine hQ a w ok R (hs.weaken fun x hx => ?_)
    rcases hx with hx | ⟨j, h1, h2⟩
    · exact .inl hx
    · refine .inr ⟨j, ?_, h2⟩
      rcases Nat.lt_or_ge j ops.length with h | h
      · exact h
      · simp [Array.getD, show ¬ j < listed.size by omega] at h1
  have readyNil : ∀ (listed : Array Bool), listed.size = ops.length → Region.ready .any ops.toArray listed = [] → (all.filter fun t => !listed.getD t.i true) = [] := by
    intro listed hsz hr
    cases hf : all.filter fun t => !listed.getD t.i true with
    | nil => rfl
    | cons t r =>
      exfalso
      have ht : t ∈ all ∧ (!listed.getD t.i true) = true := by
        have : t ∈ all.filter fun t => !listed.getD t.i true := by rw [hf]; simp
        exact List.mem_filter.1 this
      have hs2 : (t :: r).Pairwise fun x y => x.i < y.i := by rw [← hf]; exact hsort.filter _
      have : t.i ∈ Region.ready .any ops.toArray listed := by
        rw [mem_ready]
        refine ⟨by simpa using ht.2, t.o, by simpa using hall t ht.1, fun e he hb => ?_⟩
        have hlt := hedge t ht.1 e (by simpa using he) hb
        obtain ⟨u, hu, hui⟩ := hidx e.on _ (List.getElem?_eq_getElem (by have := ilt t ht.1; omega))
        have hsz2 : e.on < listed.size := by have := ilt t ht.1; omega
        cases hl : listed.getD e.on false with
        | true => rfl
        | false =>
          exfalso
          have : u ∈ t :: r := by
            rw [← hf, List.mem_filter]
            refine ⟨hu, ?_⟩
            rw [hui]
            simp [Array.getD, hsz2] at hl ⊢
            exact hl
          rcases List.mem_cons.1 this with rfl | hu2
          · omega
          · have := (List.pairwise_cons.1 hs2).1 u hu2; omega
      rw [hr] at this; cases this
  intro fuel
  induction fuel with
  | zero =>
    intro listed st a w ok R hsz hlen hcl hr hs
    have h0 : (all.filter fun t => !listed.getD t.i true) = [] := List.eq_nil_of_length_eq_zero (by omega)
    refine ⟨?_, done listed st a w ok R hsz h0 hr hs⟩
    apply List.eq_nil_iff_forall_not_mem.2
    intro i hi
    rw [mem_ready] at hi
    obtain ⟨h1, o, ho, _⟩ := hi
    obtain ⟨t, ht, rfl⟩ := hidx i o (by simpa using ho)
    have : t ∈ all.filter fun t => !listed.getD t.i true := List.mem_filter.2 ⟨ht, by simpa using h1⟩
    rw [h0] at this; cases this
  | succ fuel ih =>
    intro listed st a w ok R hsz hlen hcl hr hs
    refine ⟨fun hnil => done listed st a w ok R hsz (readyNil listed hsz hnil) hr hs, fun i hi => ?_⟩
    rw [mem_ready] at hi
    obtain ⟨h1, o, ho, hdeps⟩ := hi
    obtain ⟨t, ht, rfl⟩ := hidx i o (by simpa using ho)
    have hto : t.o = o := by have := hall t ht; simp at ho; rw [ho] at this; simpa using this.symm
    subst hto
    have htf : t ∈ all.filter fun t => !listed.getD t.i true := List.mem_filter.2 ⟨ht, by simpa using h1⟩
    obtain ⟨pre, post, hsplit⟩ := List.append_of_mem htf
    have hs2 : (pre ++ t :: post).Pairwise fun x y => x.i < y.i := by rw [← hsplit]; exact hsort.filter _
    have hpw := List.pairwise_append.1 hs2
    have bits : ∀ j, t.b.testBit j = true → listed.getD j false = true := by
      intro j hj
      obtain ⟨e, he, hb, hor⟩ := hbit t ht j hj
      have hl := hdeps e (by simpa using he) hb
      rcases hor with rfl | ⟨u, hu, hui, hub⟩
      · exact hl
      · exact hcl u hu (by rw [hui]; exact hl) j hub
    rw [hsplit] at hr
    obtain ⟨s1, hstep, hrest⟩ := bubble pre st hr fun y hy => by
      have hya : y ∈ all ∧ (!listed.getD y.i true) = true := by
        have : y ∈ all.filter fun t => !listed.getD t.i true := by rw [hsplit]; simp [hy]
        exact List.mem_filter.1 this
      have hlt : y.i < t.i := hpw.2.2 y hy t (by simp)
      have hp := hpair y hya.1 t ht
      simp only [pairOk, hlt, decide_true, Bool.not_true, Bool.false_or, Bool.or_eq_true] at hp
      refine hp.resolve_left fun hb => ?_
      have := bits y.i hb
      have hsz2 : y.i < listed.size := by have := ilt y hya.1; omega
      have h2 := hya.2
      simp [Array.getD, hsz2] at this h2
      rw [this] at h2; cases h2
    have hti : t.i < listed.size := by have := ilt t ht; omega
    have hnew : (all.filter fun u => !(listed.setIfInBounds t.i true).getD u.i true) = pre ++ post := by
      have e1 : (all.filter fun u => !(listed.setIfInBounds t.i true).getD u.i true) = ((all.filter fun u => !listed.getD u.i true).filter fun u => decide (u.i ≠ t.i)) := by
        rw [List.filter_filter]
        apply List.filter_congr
        intro u hu
        by_cases hui : u.i = t.i
        · simp [hui, Array.getD, hti]
        · rw [getD_set_ne true (fun e => hui e.symm)]; simp [hui]
      rw [e1, hsplit, List.filter_append]
      have p1 : pre.filter (fun u => decide (u.i ≠ t.i)) = pre := List.filter_eq_self.2 fun u hu => by have := hpw.2.2 u hu t (by simp); simp; omega
      have p2 : (t :: post).filter (fun u => decide (u.i ≠ t.i)) = post := by
        rw [List.filter_cons]
        simp only [ne_eq, not_true_eq_false, decide_false, Bool.false_eq_true, if_false]
        exact List.filter_eq_self.2 fun u hu => by have := (List.pairwise_cons.1 hpw.2.1).1 u hu; simp; omega
      rw [p1, p2]
    have hlen' : (pre ++ post).length ≤ fuel := by rw [hsplit] at hlen; simp at hlen ⊢; omega
    have hcl' : Closed all (listed.setIfInBounds t.i true) := by
      intro u hu hul j hj
      by_cases hui : u.i = t.i
      · have hut : u.b.testBit j = t.b.testBit j := by
          have : u = t := by
            by_cases hh : u = t
            · exact hh
            · exfalso
              obtain ⟨l1, l2, hl⟩ := List.append_of_mem hu
              rw [hl] at hsort ht
              have hp2 := List.pairwise_append.1 hsort
              rcases List.mem_append.1 ht with h | h
              · have := hp2.2.2 t h u (by simp); omega
              · rcases List.mem_cons.1 h with h | h
                · exact hh h.symm
                · have := (List.pairwise_cons.1 hp2.2.1).1 t h; omega
          rw [this]
        rw [hut] at hj
        exact getD_set_true (bits j hj)
      · rw [getD_set_ne false (fun e => hui e.symm)] at hul
        exact getD_set_true (hcl u hu hul j hj)
    have hlim : ∀ (s : St) (a' : Act) (w' : World) (ok' : Nat → Prop) (R' : Nat → Nat → Option (Nat × Nat)), SR G s a' w' ok' R' (fun x => (x < ck ∨ ∃ j, listed.getD j false = true ∧ x = ck + j) ∨ x = ck + t.i) →
        SR G s a' w' ok' R' (fun g => g < ck ∨ ∃ j, (listed.setIfInBounds t.i true).getD j false = true ∧ g = ck + j) := by
      intro s a' w' ok' R' h
      refine h.weaken fun x hx => ?_
      rcases hx with (hx | ⟨j, e1, e2⟩) | hx
      · exact .inl hx
      · exact .inr ⟨j, getD_set_true e1, e2⟩
      · exact .inr ⟨t.i, by simp [Array.getD, hti], hx⟩
    obtain ⟨rfl, hst⟩ := step1_iff.1 hstep
    unfold wpOp
    rw [ho]
    simp only
    cases hl : t.l with
    | none =>
      rw [hl] at hst hrest
      simp only at hst
      rw [wants_sound hs hst, if_neg (by simp)]
      refine ih _ _ _ _ ok R (by simpa using hsz) (by rw [hnew]; exact hlen') hcl' (by rw [hnew]; exact hrest) (hlim _ _ _ _ _ ((hs.skip t.o.dst).weaken fun x hx => .inl hx))
    | some r =>
      rw [hl] at hst hrest
      simp only at hst
      rw [wants_sound hs hst.1, if_pos rfl]
      left
      refine op_sound hT hG hs (by omega) (fun n => ?_) hst.2 fun v w' ok' R' h' => ?_
      · cases hn : R n (ck + t.i) with
        | none => rfl
        | some p =>
          rcases hs.fresh n (ck + t.i) (by rw [hn]; simp) with h2 | ⟨j, h2, h3⟩
          · omega
          · have : j = t.i := by omega
            subst this
            simp [Array.getD, hti] at h1 h2
            rw [h1] at h2; cases h2
      · exact ih _ _ _ _ ok' R' (by simpa using hsz) (by rw [hnew]; exact hlen') hcl' (by rw [hnew]; exact hrest) (hlim _ _ _ _ _ h')
end Go.Proofs.Ytkeelkeoijemiaa.Ev
