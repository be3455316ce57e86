/- A region that draws its order. -/
import Derived.Test.YtkeelkeoijemiaaEvK
namespace Go.Proofs.Ytkeelkeoijemiaa.Ev
open Go Go.RowKit

variable {P : Program} {T : Tab} {st : St}

def freezeE (e : Ent) : Ent := { e with frozen := true }
def updAt : List (Nat × Option Ent) → Nat → Nat → Option Ent → Option Ent
  | [], _, _, b => b
  | (n, x) :: r, m, len, b => updAt r m len (if n = m ∧ m < len then x else b)

theorem setUpd_len : ∀ (u : List (Nat × Option Ent)) (en : List (Option Ent)), (setUpd en u).length = en.length
  | [], _ => rfl
  | (n, x) :: r, en => by simp [setUpd, setUpd_len r]
theorem setFrz_len : ∀ (f : List Nat) (en : List (Option Ent)), (setFrz en f).length = en.length
  | [], _ => rfl
  | n :: r, en => by
    simp only [setFrz, setFrz_len r]
    unfold frzAt
    split <;> simp
theorem setUpd_getD : ∀ (u : List (Nat × Option Ent)) (en : List (Option Ent)) (m : Nat), (setUpd en u).getD m none = updAt u m en.length (en.getD m none)
  | [], _, _ => rfl
  | (n, x) :: r, en, m => by
    simp only [setUpd, updAt]
    rw [setUpd_getD r]
    simp only [List.length_set, List.getD_eq_getElem?_getD, List.getElem?_set]
    congr 1
    by_cases h : n = m
    · subst h
      by_cases hl : n < en.length
      · simp [hl]
      · simp [hl]
    · simp [h]
theorem frzAt_getD (en : List (Option Ent)) (n m : Nat) : (frzAt en n).getD m none = if m = n then (en.getD m none).map freezeE else en.getD m none := by
  unfold frzAt
  by_cases h : m = n
  · subst h
    rw [if_pos rfl]
    cases he : en.getD m none with
    | none => simp only [he, Option.map_none]
    | some e =>
      have hl : m < en.length := by
        rcases Nat.lt_or_ge m en.length with h | h
        · exact h
        · simp [List.getD_eq_getElem?_getD, List.getElem?_eq_none h] at he
      simp [List.getD_eq_getElem?_getD, hl, freezeE]
  · rw [if_neg h]
    split
    · simp [List.getD_eq_getElem?_getD, Ne.symm h]
    · rfl
theorem setFrz_getD : ∀ (f : List Nat) (en : List (Option Ent)) (m : Nat), (setFrz en f).getD m none = if m ∈ f then (en.getD m none).map freezeE else en.getD m none
  | [], _, _ => by simp [setFrz]
  | n :: r, en, m => by
    simp only [setFrz]
    rw [setFrz_getD r, frzAt_getD]
    by_cases h : m = n
    · subst h
      simp only [if_true, List.mem_cons, true_or]
      cases en.getD m none <;> simp [freezeE]
    · simp [h]
theorem updAt_not : ∀ (u : List (Nat × Option Ent)) (m len : Nat) (b : Option Ent), m ∉ u.map (·.1) → updAt u m len b = b
  | [], _, _, _, _ => rfl
  | (n, x) :: r, m, len, b, h => by
    simp only [List.map_cons, List.mem_cons, not_or] at h
    simp only [updAt]
    rw [updAt_not r m len _ h.2, if_neg (fun hh => h.1 hh.1.symm)]
theorem updAt_ge : ∀ (u : List (Nat × Option Ent)) (m len : Nat) (b : Option Ent), ¬ m < len → updAt u m len b = b
  | [], _, _, _, _ => rfl
  | (n, x) :: r, m, len, b, h => by
    simp only [updAt]
    rw [updAt_ge r m len _ h, if_neg (fun hh => h hh.2)]
theorem updAt_in : ∀ (u : List (Nat × Option Ent)) (m len : Nat) (b b' : Option Ent), m < len → m ∈ u.map (·.1) → updAt u m len b = updAt u m len b'
  | [], _, _, _, _, _, h => by cases h
  | (n, x) :: r, m, len, b, b', hl, h => by
    simp only [updAt]
    by_cases hn : n = m
    · simp [hn, hl]
    · rw [if_neg (fun hh => hn hh.1), if_neg (fun hh => hn hh.1)]
      simp only [List.map_cons, List.mem_cons] at h
      exact updAt_in r m len b b' hl (h.resolve_left (Ne.symm hn))

theorem en_comm (en : List (Option Ent)) (ua ub : List (Nat × Option Ent)) (fa fb : List Nat) (h1 : ∀ n ∈ ua.map (·.1), n ∉ ub.map (·.1)) (h2 : ∀ n ∈ ua.map (·.1), n ∉ fb) (h3 : ∀ n ∈ ub.map (·.1), n ∉ fa) :
    setUpd (setFrz (setUpd (setFrz en fa) ua) fb) ub = setUpd (setFrz (setUpd (setFrz en fb) ub) fa) ua := by
  have key : ∀ m, (setUpd (setFrz (setUpd (setFrz en fa) ua) fb) ub).getD m none = (setUpd (setFrz (setUpd (setFrz en fb) ub) fa) ua).getD m none := by
    intro m
    simp only [setUpd_getD, setFrz_getD, setUpd_len, setFrz_len]
    by_cases hl : m < en.length
    · by_cases ha : m ∈ ua.map (·.1)
      · have hb := h1 m ha
        rw [updAt_not ub m _ _ hb, if_neg (h2 m ha), updAt_in ua m en.length _ (if m ∈ fa then (updAt ub m en.length (if m ∈ fb then Option.map freezeE (en.getD m none) else en.getD m none)).map freezeE else updAt ub m en.length (if m ∈ fb then Option.map freezeE (en.getD m none) else en.getD m none)) hl ha]
      · by_cases hb : m ∈ ub.map (·.1)
        · rw [updAt_not ua m _ _ ha, updAt_not ua m _ _ ha]
          simp only [if_neg (h3 m hb)]
        · simp only [updAt_not ua m _ _ ha, updAt_not ub m _ _ hb]
          by_cases p : m ∈ fa <;> by_cases q : m ∈ fb <;> simp [p, q]
    · simp only [updAt_ge _ m _ _ hl]
      have : en.getD m none = none := by simp [List.getD_eq_getElem?_getD, List.getElem?_eq_none (Nat.le_of_not_lt hl)]
      simp only [this, Option.map_none, ite_self]
  apply List.ext_getElem?
  intro m
  have hk := key m
  have l1 : (setUpd (setFrz (setUpd (setFrz en fa) ua) fb) ub).length = en.length := by simp only [setUpd_len, setFrz_len]
  have l2 : (setUpd (setFrz (setUpd (setFrz en fb) ub) fa) ua).length = en.length := by simp only [setUpd_len, setFrz_len]
  by_cases hm : m < en.length
  · rw [List.getElem?_eq_getElem (by omega), List.getElem?_eq_getElem (by omega)]
    simp only [List.getD_eq_getElem?_getD] at hk
    rw [List.getElem?_eq_getElem (by omega), List.getElem?_eq_getElem (by omega)] at hk
    simpa using hk
  · rw [List.getElem?_eq_none (by omega), List.getElem?_eq_none (by omega)]

def after (o : Oper) (l : Option Res) (st : St) : St := match l with | some r => st.put o.dst r | none => st.skip o.dst

theorem step1_iff {ops : List Oper} {g : Nat} {o : Oper} {l : Option Res} {s : St} : step1 P T ops g o st = some (l, s) ↔
    s = after o l st ∧ match l with | some r => wants ops st o = some true ∧ evalOp P T o g st = some r | none => wants ops st o = some false := by
  unfold step1
  cases hw : wants ops st o with
  | none => cases l <;> simp
  | some b =>
    cases b with
    | true =>
      cases he : evalOp P T o g st with
      | none => cases l <;> simp
      | some r =>
        cases l with
        | none => simp
        | some r' =>
          simp only [Option.some.injEq, Prod.mk.injEq, true_and]
          constructor
          · rintro ⟨rfl, rfl⟩; exact ⟨rfl, rfl⟩
          · rintro ⟨rfl, rfl⟩; exact ⟨rfl, rfl⟩
    | false =>
      cases l with
      | none => simp [after, eq_comm]
      | some r' => simp

theorem meets_no {a b : List Nat} (h : meets a b = false) : ∀ x ∈ a, x ∉ b := by
  intro x hx hb
  simp only [meets, List.any_eq_false] at h
  exact h x hx (by simpa using hb)

/-- What the log of an operation says that it touches. -/
def ux (l : Option Res) : List Nat := match l with | some r => r.upd.map (·.1) | none => []
def fx (l : Option Res) : List Nat := match l with | some r => r.frz | none => []
def rx (l : Option Res) : List Nat := match l with | some r => r.rd | none => []
theorem touches_no {a b : Option Res} (h : touches a b = false) : (∀ x ∈ ux a, x ∉ rx b) ∧ (∀ x ∈ ux a, x ∉ ux b) ∧ (∀ x ∈ ux a, x ∉ fx b) := by
  cases a with
  | none => simp [ux]
  | some a =>
    cases b with
    | none => simp [ux, rx, fx]
    | some b =>
      have := meets_no h
      simp only [List.mem_append, not_or] at this
      exact ⟨fun x hx => (this x hx).1.1, fun x hx => (this x hx).1.2, fun x hx => (this x hx).2⟩

theorem after_slot {o : Oper} {l : Option Res} {t : Nat} (h : o.dst ≠ some t) : (after o l st).slot t = st.slot t := by
  unfold after St.slot
  cases l with
  | none =>
    cases hd : o.dst with
    | none => rfl
    | some d => simp only [St.skip, List.getD_eq_getElem?_getD]; rw [List.getElem?_set, if_neg (fun e => h (by rw [hd, e]))]
  | some r =>
    cases hd : o.dst with
    | none => rfl
    | some d => simp only [St.put, List.getD_eq_getElem?_getD]; rw [List.getElem?_set, if_neg (fun e => h (by rw [hd, e]))]
theorem after_len {o : Oper} {l : Option Res} : (after o l st).sl.length = st.sl.length := by
  unfold after
  cases l <;> cases o.dst <;> simp [St.put, St.skip]
theorem after_ent {o : Oper} {l : Option Res} {n : Nat} (h : n ∉ ux l) (hf : n ∉ fx l) : (after o l st).ent n = st.ent n := by
  unfold after St.ent
  cases l with
  | none => rfl
  | some r =>
    simp only [St.put, setUpd_getD, setFrz_getD, setFrz_len]
    rw [updAt_not _ _ _ _ h]
    exact if_neg hf
theorem after_core {o : Oper} {l : Option Res} {n : Nat} (h : n ∉ ux l) : coreEq ((after o l st).ent n) (st.ent n) := by
  unfold after St.ent
  cases l with
  | none => rfl
  | some r =>
    simp only [St.put, setUpd_getD, setFrz_getD, setFrz_len]
    rw [updAt_not _ _ _ _ h]
    unfold coreEq
    split
    · cases st.en.getD n none <;> rfl
    · rfl

theorem ev_after {o : Oper} {l : Option Res} {x : Operand} (h : ∀ t, x = .tmp t → o.dst ≠ some t) : (after o l st).ev x = st.ev x := by
  cases x with
  | tmp t => exact after_slot (h t rfl)
  | _ => rfl

theorem mem_looks {ops : Array Oper} {o : Oper} {t : Nat} (h : (.tmp t : Operand) ∈ o.op.operands) : t ∈ o.looksAt ops :=
  List.mem_append_left _ (List.mem_filterMap.2 ⟨.tmp t, by simpa using h, rfl⟩)

theorem wants_after {ops : List Oper} {x y : Oper} {l : Option Res} (h : ∀ d, x.dst = some d → d ∉ y.looksAt ops.toArray) : wants ops (after x l st) y = wants ops st y := by
  unfold wants
  cases hg : y.guard with
  | none => rfl
  | some jw =>
    obtain ⟨j, want⟩ := jw
    simp only
    cases hd : (ops[j]?).bind (·.dst) with
    | none => rfl
    | some d =>
      simp only [after_len]
      rw [after_slot (fun e => h d e (by
        unfold Oper.looksAt
        apply List.mem_append_right
        rw [hg]
        simp only [show (ops.toArray[j]?) = ops[j]? from by simp, hd]
        simp))]

/-- Two operations that are apart may change places. -/
theorem swap {ops : List Oper} {gx gy : Nat} {x y : Oper} {lx ly : Option Res} {s1 s2 : St} (hi : indep ops.toArray x y lx ly = true) (h1 : step1 P T ops gx x st = some (lx, s1)) (h2 : step1 P T ops gy y s1 = some (ly, s2)) :
    ∃ s1', step1 P T ops gy y st = some (ly, s1') ∧ step1 P T ops gx x s1' = some (lx, s2) := by
  simp only [indep, Bool.and_eq_true, Bool.not_eq_true'] at hi
  obtain ⟨⟨ha, t1⟩, t2⟩ := hi
  obtain ⟨a1, a2, a3⟩ := Oper.apart_spec ha
  obtain ⟨p1, p2, p3⟩ := touches_no t1
  obtain ⟨q1, q2, q3⟩ := touches_no t2
  obtain ⟨e1, k1⟩ := step1_iff.1 h1
  obtain ⟨e2, k2⟩ := step1_iff.1 h2
  subst e1 e2
  clear h1 h2
  have h1 := k1
  have h2 := k2
  clear k1 k2
  refine ⟨after y ly st, step1_iff.2 ⟨rfl, ?_⟩, step1_iff.2 ⟨?_, ?_⟩⟩
  · cases ly with
    | none => simp only at h2 ⊢; rw [wants_after a1] at h2; exact h2
    | some r =>
      simp only at h2 ⊢
      rw [wants_after a1] at h2
      refine ⟨h2.1, evalOp_frame h2.2 (fun z hz => ev_after fun t ht e => a1 t e (mem_looks (ht ▸ hz))) (fun nm hn => after_core fun hu => p1 nm hu hn) fun nm hn => after_ent (fun hu => p2 nm hu hn) fun hf => q3 nm hn hf⟩
  · -- the states
    have hsl : (after y ly (after x lx st)).sl = (after x lx (after y ly st)).sl := by
      have : ∀ {o : Oper} {l : Option Res} {s : St}, (after o l s).sl = match o.dst with | some d => s.sl.set d (match l with | some r => r.val | none => undefM) | none => s.sl := by
        intro o l s; cases l <;> rfl
      simp only [this]
      cases hx : x.dst with
      | none => rfl
      | some d =>
        cases hy : y.dst with
        | none => rfl
        | some d' => exact List.set_comm _ _ fun e => a2 d hx (by rw [hy, e])
    have hen : (after y ly (after x lx st)).en = (after x lx (after y ly st)).en := by
      cases lx with
      | none => cases ly <;> rfl
      | some r1 =>
        cases ly with
        | none => rfl
        | some r2 => exact en_comm st.en r1.upd r2.upd r1.frz r2.frz p2 p3 q3
    have hck : (after y ly (after x lx st)).ck = (after x lx (after y ly st)).ck := by cases lx <;> cases ly <;> rfl
    calc after y ly (after x lx st) = ⟨(after y ly (after x lx st)).sl, (after y ly (after x lx st)).en, (after y ly (after x lx st)).ck⟩ := rfl
      _ = _ := by rw [hsl, hen, hck]
  · cases lx with
    | none => simp only at h1 ⊢; rw [wants_after a3]; exact h1
    | some r =>
      simp only at h1 ⊢
      rw [wants_after a3]
      refine ⟨h1.1, evalOp_frame h1.2 (fun z hz => (ev_after fun t ht e => a3 t e (mem_looks (ht ▸ hz))).symm) (fun nm hn => (?_ : coreEq _ _)) fun nm hn => (after_ent (fun hu => q2 nm hu hn) fun hf => p3 nm hn hf).symm⟩
      exact Eq.symm (after_core (o := y) (l := ly) fun hu => q1 nm hu hn)
end Go.Proofs.Ytkeelkeoijemiaa.Ev
