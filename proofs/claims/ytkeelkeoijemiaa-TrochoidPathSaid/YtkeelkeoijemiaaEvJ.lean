/- Regions and code. -/
import Derived.Test.YtkeelkeoijemiaaEvI
namespace Go.Proofs.Ytkeelkeoijemiaa.Ev
open Go Go.RowKit

variable {P : Program} {T : Tab} {G : Gh} {st : St} {a : Act} {w : World} {ok : Nat → Prop} {R : Nat → Nat → Option (Nat × Nat)} {lim : Nat → Prop} {o : Oper} {g : Nat} {r : Res}

theorem op_sound {K : Act → World → Prop} {Q : Exit → Act → World → Prop} (hT : TabOK P T) (hG : G.ok) (h : SR G st a w ok R lim) (hg : g ≠ 0) (hR : ∀ n, R n g = none) (e : evalOp P T o g st = some r)
    (hK : ∀ v w' ok' R', SR G (st.put o.dst r) (a.put o.dst v) w' ok' R' (fun x => lim x ∨ x = g) → K (a.put o.dst v) w') : o.wp P a w K Q := by
  have hsel : ∀ cs b, o.op ≠ .select cs b := by
    intro cs b ho
    simp [evalOp, ho] at e
  cases ho : o.op with
  | move x => exact (op_move h (.inl ho) e).wp hK
  | assign x => exact (op_move h (.inr ho) e).wp hK
  | pick c x y => exact (op_pick h ho e).wp hK
  | alloc t => exact (op_alloc h hg hR ho e).wp hK
  | box t x => exact (op_box h hg hR ho e).wp hK
  | load t x => exact (op_load h ho e).wp hK
  | store t p x => exact (op_store hG h ho e).wp hK
  | nilCheck x => exact (op_nilCheck h ho e).wp hK
  | binOp b t x y t2 => exact (op_pure h hsel (by simpa only [evalOp, ho] using e)).wp hK
  | unOp u t x => exact (op_pure h hsel (by simpa only [evalOp, ho] using e)).wp hK
  | index t x i => exact (op_pure h hsel (by simpa only [evalOp, ho] using e)).wp hK
  | convert s d x => exact (op_pure h hsel (by simpa only [evalOp, ho] using e)).wp hK
  | fieldAddr s x f => exact (op_fieldAddr h ho e).wp hK
  | field s x f => exact (op_field h ho e).wp hK
  | indexAddr t x i => exact (op_indexAddr h ho e).wp hK
  | build t ps => exact (op_build h ho e).wp hK
  | buildSlice t n ps => exact (op_buildSlice h hg hR ho e).wp hK
  | makeSlice t l c => exact (op_makeSlice h hg hR ho e).wp hK
  | slice t x lo hi mx =>
    cases hu : P.underlying t with
    | none => simp [evalOp, ho, hu] at e
    | some d =>
      cases d with
      | slice el => exact (op_slice h ho hu e).wp hK
      | string => exact (op_pure h hsel (by simpa only [evalOp, ho, hu] using e)).wp hK
      | _ => simp [evalOp, ho, hu] at e
  | extract x i => exact (op_extract h ho e).wp hK
  | makeFunc fn first caps =>
    cases fn with
    | func f =>
      obtain ⟨l⟩ := first
      cases l with
      | nil => exact (op_makeFunc h ho e).wp hK
      | cons _ _ => simp [evalOp, ho] at e
    | _ => simp [evalOp, ho] at e
  | call c =>
    cases hc : c.callee with
    | value f => exact op_call hT hG h ho hc e hK
    | invoke _ _ => simp [evalOp, ho, hc] at e
    | builtin b =>
      cases b with
      | len => exact (op_len h ho hc e).wp hK
      | append => exact (op_append hG h hg hR ho hc e).wp hK
      | max => exact (op_pure h hsel (by simpa only [evalOp, ho, hc] using e)).wp hK
      | min => exact (op_pure h hsel (by simpa only [evalOp, ho, hc] using e)).wp hK
      | _ => simp [evalOp, ho, hc] at e
  | _ => simp [evalOp, ho] at e

theorem wants_sound {ops : List Oper} {b : Bool} (h : SR G st a w ok R lim) (e : wants ops st o = some b) : Region.wanted o (yielded ops.toArray a.tmps) = b := by
  unfold wants at e
  unfold Region.wanted
  cases hgd : o.guard with
  | none => rw [hgd] at e; simpa using e
  | some jw =>
    obtain ⟨j, want⟩ := jw
    rw [hgd] at e
    simp only at e ⊢
    cases hd : (ops[j]?).bind (·.dst) with
    | none => rw [hd] at e; cases e
    | some d =>
      rw [hd] at e
      simp only at e
      split at e
      · rename_i hlt
        have hsl := h.slot d
        have hlen := h.lenEq
        have hy : yielded ops.toArray a.tmps j = match a.tmps[d]? with | some (.bool b) => some b | _ => none := by
          unfold yielded
          rw [show (ops.toArray[j]?) = ops[j]? from by simp, hd]
          rfl
        have hgd : a.tmps[d]? = some (a.tmps.getD d undef) := by
          have : d < a.tmps.size := hlen ▸ hlt
          simp [Array.getD, this]
        rw [hy, hgd]
        split at e
        · rename_i b' hm
          rw [hm] at hsl
          have hsl : a.tmps.getD d undef = .bool b' := hsl
          rw [hsl]; simpa using e
        · rename_i v hnb hm
          rw [hm] at hsl
          have hsl : a.tmps.getD d undef = v := hsl
          rw [hsl]
          cases e
          cases v with
          | bool q => exact absurd rfl (hnb q)
          | _ => rfl
        · cases e
      · cases e

/-- The states between two operations: gens up to here are used. -/
def limAt (ck i : Nat) : Nat → Prop := fun g => g < ck ∨ ∃ j, j < i ∧ g = ck + j

theorem evalOps_sound {ops : List Oper} {ck : Nat} (hck : ck ≠ 0) (hT : TabOK P T) (hG : G.ok) {Q : Exit → Act → World → Prop} :
    ∀ (rest : List Oper) (i : Nat) (st st' : St) (a : Act) (w : World) (ok : Nat → Prop) (R : Nat → Nat → Option (Nat × Nat)), (∀ k, rest[k]? = ops[i + k]?) → i + rest.length = ops.length →
      evalOps P T ops ck i rest st = some st' → SR G st a w ok R (limAt ck i) →
      (∀ a' w' ok' R', SR G st' a' w' ok' R' (limAt ck ops.length) → Q .normal a' w') → wpOps P ops.toArray Q (List.range' i rest.length) a w
  | [], i, st, st', a, w, ok, R, _, hl, e, h, hQ => by
    simp [evalOps] at e; subst e
    simp only [List.length_nil, List.range'_zero, wpOps]
    exact hQ a w ok R (h.weaken fun x hx => by simp at hl; subst hl; exact hx)
  | o :: rest, i, st, st', a, w, ok, R, hr, hl, e, h, hQ => by
    rw [List.length_cons, List.range'_succ, wpOps_cons]
    have ho : ops.toArray[i]? = some o := by have := hr 0; simp at this; simpa using this.symm
    simp only [evalOps] at e
    unfold wpOp
    rw [ho]
    simp only
    have hr' : ∀ k, rest[k]? = ops[i + 1 + k]? := fun k => by have := hr (k + 1); simp at this; rw [this]; congr 1; omega
    have hl' : i + 1 + rest.length = ops.length := by simp at hl; omega
    split at e
    · rename_i hw
      rw [wants_sound h hw, if_pos rfl]
      split at e
      · rename_i r hev
        left
        refine op_sound hT hG h (by omega) (fun n => ?_) hev fun v w' ok' R' h' => ?_
        · cases hn : R n (ck + i) with
          | none => rfl
          | some p =>
            rcases h.fresh n (ck + i) (by rw [hn]; simp) with h1 | ⟨j, h1, h2⟩ <;> omega
        · refine evalOps_sound hck hT hG rest (i + 1) _ st' _ w' ok' R' hr' hl' e (h'.weaken fun x hx => ?_) hQ
          rcases hx with (hx | ⟨j, h1, h2⟩) | hx
          · exact .inl hx
          · exact .inr ⟨j, by omega, h2⟩
          · exact .inr ⟨i, by omega, hx⟩
      · cases e
    · rename_i hw
      rw [wants_sound h hw, if_neg (by simp)]
      refine evalOps_sound hck hT hG rest (i + 1) _ st' _ w ok R hr' hl' e ((h.skip o.dst).weaken fun x hx => ?_) hQ
      rcases hx with hx | ⟨j, h1, h2⟩
      · exact .inl hx
      · exact .inr ⟨j, by omega, h2⟩
    · cases e
end Go.Proofs.Ytkeelkeoijemiaa.Ev
