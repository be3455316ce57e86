/- How values of the evaluator stand to the machine's: the relation, and what keeps it. -/
import Derived.Test.YtkeelkeoijemiaaEvA
namespace Go.Proofs.Ytkeelkeoijemiaa.Ev
open Go Go.RowKit

def hasCells (w : World) (b n : Nat) : Prop := ∃ c el fr, w.heap[b]? = some (.cells c el fr) ∧ n ≤ c.size
def noR : Nat → Nat → Option (Nat × Nat) := fun _ _ => none

/-- The cells from an address on. -/
def CellsAt (w : World) (b o : Nat) (vs : List Value) : Prop := ∀ i, i < vs.length → w.cell? ⟨b, o + i, none⟩ = vs[i]?

mutual
def VR (w : World) (ok : Nat → Prop) (R : Nat → Nat → Option (Nat × Nat)) : MV → Value → Prop
  | .sc v, x => x = v
  | .agg cs, x => ∃ vs : List Value, x = .agg ⟨vs⟩ ∧ VRs w ok R cs vs
  | .tup cs, x => ∃ vs : List Value, x = .tuple ⟨vs⟩ ∧ VRs w ok R cs vs
  | .fn f cs, x => ∃ vs : List Value, x = .func (.func f) #[] ⟨vs⟩ ∧ VRs w ok R cs vs
  | .fs len cap cs, x => ∃ a c, x = .slice a len c ∧ len ≤ c ∧ (∀ k, cap = some k → c = k) ∧
      ((len = 0 ∧ cs = [] ∧ (a = none → c = 0)) ∨ ∃ b o vs, a = some ⟨b, o, none⟩ ∧ ok b ∧ CellsAt w b o vs ∧ VRs w ok noR cs vs)
  | .cp cs, x => ∃ b o vs, x = .pointer (some ⟨b, o, none⟩) ∧ ok b ∧ CellsAt w b o vs ∧ VRs w ok noR cs vs
  | .row nm g off len cap sz, x => ∃ B d c, R nm g = some (B, d) ∧ x = .slice (some ⟨B, d + off, none⟩) len c ∧ len ≤ c ∧ (∀ k, cap = some k → c = k) ∧
      (g ≠ 0 → hasCells w B (d + off + c * sz))
  | .ptr nm g off, x => ∃ B d, R nm g = some (B, d) ∧ x = .pointer (some ⟨B, d + off, none⟩)
  | .any, _ => True
def VRs (w : World) (ok : Nat → Prop) (R : Nat → Nat → Option (Nat × Nat)) : List MV → List Value → Prop
  | [], vs => vs = []
  | m :: ms, vs => ∃ v vt, vs = v :: vt ∧ VR w ok R m v ∧ VRs w ok R ms vt
end

/-- From w to w': the blocks that may be read hold what they held; none shrinks. -/
structure Ext (ok : Nat → Prop) (w w' : World) : Prop where
  same : ∀ b, ok b → w'.heap[b]? = w.heap[b]?
  has : ∀ b n, hasCells w b n → hasCells w' b n

theorem Ext.refl (ok : Nat → Prop) (w : World) : Ext ok w w := ⟨fun _ _ => rfl, fun _ _ h => h⟩
theorem Ext.cell {ok : Nat → Prop} {w w' : World} (h : Ext ok w w') {b o : Nat} (hb : ok b) : w'.cell? ⟨b, o, none⟩ = w.cell? ⟨b, o, none⟩ := by
  unfold World.cell?; rw [h.same b hb]
theorem Ext.cells {ok : Nat → Prop} {w w' : World} (h : Ext ok w w') {b o : Nat} {vs : List Value} (hb : ok b) (hc : CellsAt w b o vs) : CellsAt w' b o vs :=
  fun i hi => (h.cell hb).trans (hc i hi)

mutual
theorem VR.mono {w w' : World} {ok ok' : Nat → Prop} {R R' : Nat → Nat → Option (Nat × Nat)} (hx : Ext ok w w') (ho : ∀ b, ok b → ok' b) (hR : ∀ n g p, R n g = some p → R' n g = some p) :
    ∀ (m : MV) (x : Value), VR w ok R m x → VR w' ok' R' m x
  | .sc _, _, h => h
  | .agg cs, _, ⟨vs, e, h⟩ => ⟨vs, e, VRs.mono hx ho hR cs vs h⟩
  | .tup cs, _, ⟨vs, e, h⟩ => ⟨vs, e, VRs.mono hx ho hR cs vs h⟩
  | .fn _ cs, _, ⟨vs, e, h⟩ => ⟨vs, e, VRs.mono hx ho hR cs vs h⟩
  | .fs _ _ cs, _, ⟨a, c, e, h1, h2, h⟩ => ⟨a, c, e, h1, h2, h.elim .inl fun ⟨b, o, vs, ea, hb, hc, hv⟩ => .inr ⟨b, o, vs, ea, ho b hb, hx.cells hb hc, VRs.mono hx ho (fun _ _ _ h => h) cs vs hv⟩⟩
  | .cp cs, _, ⟨b, o, vs, e, hb, hc, hv⟩ => ⟨b, o, vs, e, ho b hb, hx.cells hb hc, VRs.mono hx ho (fun _ _ _ h => h) cs vs hv⟩
  | .row _ _ _ _ _ _, _, ⟨B, d, c, h1, h2, h3, h4, h5⟩ => ⟨B, d, c, hR _ _ _ h1, h2, h3, h4, fun hg => hx.has _ _ (h5 hg)⟩
  | .ptr _ _ _, _, ⟨B, d, h1, h2⟩ => ⟨B, d, hR _ _ _ h1, h2⟩
  | .any, _, _ => trivial
theorem VRs.mono {w w' : World} {ok ok' : Nat → Prop} {R R' : Nat → Nat → Option (Nat × Nat)} (hx : Ext ok w w') (ho : ∀ b, ok b → ok' b) (hR : ∀ n g p, R n g = some p → R' n g = some p) :
    ∀ (ms : List MV) (vs : List Value), VRs w ok R ms vs → VRs w' ok' R' ms vs
  | [], _, h => h
  | m :: ms, _, ⟨v, vt, e, h, hs⟩ => ⟨v, vt, e, VR.mono hx ho hR m v h, VRs.mono hx ho hR ms vt hs⟩
end

section lists
variable {w : World} {ok : Nat → Prop} {R : Nat → Nat → Option (Nat × Nat)}
theorem VRs.length : ∀ {ms : List MV} {vs : List Value}, VRs w ok R ms vs → vs.length = ms.length
  | [], _, h => by cases h; rfl
  | _ :: _, _, ⟨_, _, e, _, h⟩ => by subst e; simp [VRs.length h]
theorem VRs.get : ∀ {ms : List MV} {vs : List Value} (_ : VRs w ok R ms vs) (i : Nat) (m : MV), ms[i]? = some m → ∃ v, vs[i]? = some v ∧ VR w ok R m v
  | [], _, _, _, _, h => by simp at h
  | m :: ms, _, ⟨v, vt, e, h, hs⟩, 0, m', he => by subst e; simp at he; subst he; exact ⟨v, rfl, h⟩
  | m :: ms, _, ⟨v, vt, e, h, hs⟩, i + 1, m', he => by subst e; simp at he; simpa using VRs.get hs i m' he
theorem VRs.nil : VRs w ok R [] [] := rfl
theorem VRs.cons {m : MV} {v : Value} {ms : List MV} {vs : List Value} (h : VR w ok R m v) (hs : VRs w ok R ms vs) : VRs w ok R (m :: ms) (v :: vs) := ⟨v, vs, rfl, h, hs⟩
theorem VRs.append : ∀ {ms : List MV} {vs : List Value} {ns : List MV} {us : List Value}, VRs w ok R ms vs → VRs w ok R ns us → VRs w ok R (ms ++ ns) (vs ++ us)
  | [], _, _, _, h, k => by cases h; exact k
  | _ :: _, _, _, _, ⟨_, _, e, h, hs⟩, k => by subst e; exact VRs.cons h (VRs.append hs k)
theorem VRs.take : ∀ (n : Nat) {ms : List MV} {vs : List Value}, VRs w ok R ms vs → VRs w ok R (ms.take n) (vs.take n)
  | 0, _, _, _ => by simp; exact VRs.nil
  | _ + 1, [], _, h => by cases h; exact VRs.nil
  | n + 1, _ :: _, _, ⟨_, _, e, h, hs⟩ => by subst e; exact VRs.cons h (VRs.take n hs)
theorem VRs.drop : ∀ (n : Nat) {ms : List MV} {vs : List Value}, VRs w ok R ms vs → VRs w ok R (ms.drop n) (vs.drop n)
  | 0, _, _, h => by simpa using h
  | _ + 1, [], _, h => by cases h; exact VRs.nil
  | n + 1, _ :: _, _, ⟨_, _, e, _, hs⟩ => by subst e; exact VRs.drop n hs
theorem VRs.set : ∀ (n : Nat) {ms : List MV} {vs : List Value} {m : MV} {v : Value}, VRs w ok R ms vs → VR w ok R m v → VRs w ok R (ms.set n m) (vs.set n v)
  | _, [], _, _, _, h, _ => by cases h; exact VRs.nil
  | 0, _ :: _, _, _, _, ⟨_, _, e, _, hs⟩, k => by subst e; exact VRs.cons k hs
  | n + 1, _ :: _, _, _, _, ⟨_, _, e, h, hs⟩, k => by subst e; exact VRs.cons h (VRs.set n hs k)
theorem VRs.replicate {m : MV} {v : Value} (h : VR w ok R m v) : ∀ n, VRs w ok R (List.replicate n m) (List.replicate n v)
  | 0 => VRs.nil
  | n + 1 => by rw [List.replicate_succ, List.replicate_succ]; exact VRs.cons h (VRs.replicate h n)
theorem VRs.map_of {α : Type} {f : α → MV} {g : α → Value} : ∀ (l : List α), (∀ x ∈ l, VR w ok R (f x) (g x)) → VRs w ok R (l.map f) (l.map g)
  | [], _ => VRs.nil
  | x :: l, h => VRs.cons (h x (by simp)) (VRs.map_of l fun y hy => h y (by simp [hy]))
theorem VR_cv1 (v : Value) : VR w ok R (cv1 v) v := by
  unfold cv1
  split
  · exact ⟨none, 0, rfl, Nat.le_refl _, fun k h => by cases h; rfl, .inl ⟨rfl, rfl, fun _ => rfl⟩⟩
  · rfl
theorem VRs_cv1 (l : List Value) : VRs w ok R (l.map cv1) l := by
  have := VRs.map_of (w := w) (ok := ok) (R := R) (f := cv1) (g := id) l fun x _ => VR_cv1 x
  simpa using this
theorem VR_cv (v : Value) : VR w ok R (cv v) v := by
  unfold cv
  split
  · rename_i cs; exact ⟨cs.toList, rfl, VRs_cv1 _⟩
  · rename_i f; exact ⟨[], rfl, VRs.nil⟩
  · exact VR_cv1 _
end lists

mutual
theorem toVal_sound {w : World} {ok : Nat → Prop} {R : Nat → Nat → Option (Nat × Nat)} : ∀ (m : MV) (x v : Value), VR w ok R m x → toVal m = some v → x = v
  | .sc _, x, v, h, e => by simp [toVal] at e; subst e; exact h
  | .agg cs, x, v, ⟨vs, hx, h⟩, e => by
    simp only [toVal, Option.map_eq_some_iff] at e
    obtain ⟨l, hl, rfl⟩ := e
    rw [hx, toVals_sound cs vs l h hl]
  | .tup _, _, _, _, e => by simp [toVal] at e
  | .fs _ _ _, _, _, _, e => by simp [toVal] at e
  | .cp _, _, _, _, e => by simp [toVal] at e
  | .row _ _ _ _ _ _, _, _, _, e => by simp [toVal] at e
  | .ptr _ _ _, _, _, _, e => by simp [toVal] at e
  | .fn _ _, _, _, _, e => by simp [toVal] at e
  | .any, _, _, _, e => by simp [toVal] at e
theorem toVals_sound {w : World} {ok : Nat → Prop} {R : Nat → Nat → Option (Nat × Nat)} : ∀ (ms : List MV) (vs l : List Value), VRs w ok R ms vs → toVals ms = some l → vs = l
  | [], vs, l, h, e => by simp [toVals] at e; subst e; exact h
  | m :: ms, vs, l, ⟨v, vt, hx, h, hs⟩, e => by
    simp only [toVals] at e
    split at e
    · rename_i v' l' h1 h2
      cases e
      rw [hx, toVal_sound m v v' h h1, toVals_sound ms vt l' hs h2]
    · cases e
end

theorem pureRun_sound {α : Type} {P : Program} : ∀ (s : Sem α) (a : α), pureRun P s = some a → ∀ w, s.run P w = .ok a w
  | .pure _, a, h, w => by simp [pureRun] at h; subst h; rfl
  | .program k, a, h, w => by simp only [pureRun] at h; exact pureRun_sound (k P) a h w
  | .load _ _ _, _, h, _ => by simp [pureRun] at h
  | .store _ _ _ _, _, h, _ => by simp [pureRun] at h
  | .new _ _, _, h, _ => by simp [pureRun] at h
  | .shape _ _, _, h, _ => by simp [pureRun] at h
  | .freeze _ _ _, _, h, _ => by simp [pureRun] at h
  | .frozen _ _, _, h, _ => by simp [pureRun] at h
  | .getObj _ _, _, h, _ => by simp [pureRun] at h
  | .setObj _ _ _, _, h, _ => by simp [pureRun] at h
  | .choose _ _, _, h, _ => by simp [pureRun] at h
  | .sys _ _, _, h, _ => by simp [pureRun] at h
  | .mark _ _, _, h, _ => by simp [pureRun] at h
  | .halt _, _, h, _ => by simp [pureRun] at h
end Go.Proofs.Ytkeelkeoijemiaa.Ev
