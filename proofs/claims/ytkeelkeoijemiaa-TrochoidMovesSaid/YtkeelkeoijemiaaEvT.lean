/- Tables and loops: what a deep table answers, and loops by their states at the head. -/
import Derived.Test.YtkeelkeoijemiaaEvX
namespace Go.Proofs.Ytkeelkeoijemiaa.Ev
open Go Go.RowKit

mutual
/-- Without capacities. -/
def uncap : MV → MV
  | .fs n _ cs => .fs n none (uncaps cs)
  | .agg cs => .agg (uncaps cs)
  | .tup cs => .tup (uncaps cs)
  | .cp cs => .cp (uncaps cs)
  | .fn f cs => .fn f (uncaps cs)
  | m => m
def uncaps : List MV → List MV
  | [] => []
  | m :: ms => uncap m :: uncaps ms
end

def ioOf (f : FuncId) : List Nat := if f = 90 ∨ f = 91 then [0] else []
def T0 : Tab := { call := fun _ _ => none, io := ioOf }
def q0 : MV := .agg [.sc (.bool false), .fs 0 none [], .sc (.bool false), .fs 1 none [.sc (.int .u32 1)]]

/-- As the built-in functions answer. -/
def gmax (x y : Int) : Int := if y > x then y else x
def gmin (x y : Int) : Int := if y < x then y else x

variable {P : Program} {T : Tab}

theorem deep_call {k n : Nat} {f : FuncId} {args : List MV} (h : T.call f args = none) : (T.deep P k (n + 1)).call f args = evalBody P (T.deep P k n) k (T.io f) f args := by
  simp only [Tab.deep, h]

/-- The bodies of a code's loops. -/
def loopsIn : Code → List Code
  | .loop c => c :: loopsIn c
  | .seq a b => loopsIn a ++ loopsIn b
  | .cond _ a b => loopsIn a ++ loopsIn b
  | .block _ c => loopsIn c
  | _ => []
def bodyOf (P : Program) (f : FuncId) (j : Nat) : Code := match P.funcs[f]? with
  | some fn => match fn.body with
    | some c => (loopsIn c).getD j .skip
    | none => .skip
  | none => .skip

theorem xCode_io {io : FuncId → List Nat} {hard : Bool} (hio : T.io = io) {c : Code} {st s : St} {o : Out} {orc orc2 : List Ans} {b : List Prop} (e : xCode P T hard io c st orc = some (o, s, orc2, b)) (hb : Owed b) : evalCode P T FUEL c st = some (o, s) := by
  subst hio
  exact xCode_sound c st s o orc orc2 b e hb

theorem xBody_io {io : FuncId → List Nat} {hard : Bool} (hio : T.io = io) {f : FuncId} {args : List MV} {orc : List Ans} {r : MV} {outs : List (List MV)} {b : List Prop} (e : xBody P T hard io f args orc = some (r, outs, b)) (hb : Owed b) : evalBody P T FUEL (io f) f args = some (r, outs) := by
  have := xBody_sound hio e hb
  rw [hio] at this
  exact this

/-- A loop, by what holds at its head: so many rounds, and what the round behind them does. -/
theorem loop_inv {G : St → Option (Out × St)} {nm : St → St} (Inv : Nat → St → Prop) (Q : Out → St → Prop) : ∀ (m n : Nat) (S : St) (i : Nat),
    (∀ j s, i ≤ j → j < i + m → Inv j s → ∃ s', G s = some (.normal, s') ∧ Inv (j + 1) (nm s')) → (∀ s, Inv (i + m) s → ∃ o s', G s = some (o, s') ∧ o ≠ .normal ∧ Q o s') → Inv i (nm S) → m < n →
    ∃ o s', evalLoop (fun s => G (nm s)) n S = some (o, s') ∧ Q o s'
  | _, 0, _, _, _, _, _, hn => by omega
  | 0, n + 1, S, i, _, he, h0, _ => by
    obtain ⟨o, s', h1, h2, h3⟩ := he (nm S) h0
    refine ⟨o, s', ?_, h3⟩
    simp only [evalLoop, h1]
    cases o with
    | normal => exact absurd rfl h2
    | exit i => rfl
    | ret => rfl
  | m + 1, n + 1, S, i, hs, he, h0, hn => by
    obtain ⟨s1, h1, h2⟩ := hs i (nm S) (Nat.le_refl _) (by omega) h0
    obtain ⟨o, s', h3, h4⟩ := loop_inv Inv Q m n s1 (i + 1) (fun j s h3 h4 => hs j s (by omega) (by omega)) (fun s h => he s (by rw [show i + (m + 1) = i + 1 + m by omega]; exact h)) h2 (by omega)
    refine ⟨o, s', ?_, h4⟩
    simp only [evalLoop, h1]
    exact h3

/-- Cells without names. -/
def NoNames (cs : List MV) : Prop := namesInL cs = [] ∧ ∀ look, norms look cs = cs
def fillAt (en : List (Option Ent)) (n : Nat) (cs : List MV) : List (Option Ent) := match en.getD n none with
  | some e => en.set n (some { e with cells := cs })
  | none => en
def fillEn : List (Option Ent) → List (Nat × List MV) → List (Option Ent)
  | en, [] => en
  | en, (n, cs) :: r => fillEn (fillAt en n cs) r
def fillSt (st : St) (fs : List (Nat × List MV)) : St := { st with en := fillEn st.en fs }

theorem namesInL_append : ∀ a b : List MV, namesInL (a ++ b) = namesInL a ++ namesInL b
  | [], b => rfl
  | x :: a, b => by simp [namesInL, namesInL_append a b]
theorem norms_append (look : Nat → Option Ent) : ∀ a b : List MV, norms look (a ++ b) = norms look a ++ norms look b
  | [], b => rfl
  | x :: a, b => by simp [norms, norms_append look a b]
theorem NoNames.nil : NoNames [] := ⟨rfl, fun _ => rfl⟩
theorem NoNames.append {a b : List MV} (ha : NoNames a) (hb : NoNames b) : NoNames (a ++ b) := ⟨by rw [namesInL_append, ha.1, hb.1]; rfl, fun look => by rw [norms_append, ha.2, hb.2]⟩
theorem NoNames.cons_sc {v : Value} {a : List MV} (ha : NoNames a) : NoNames (.sc v :: a) := ⟨by simp [namesInL, namesIn, ha.1], fun look => by simp [norms, norm1, ha.2]⟩
theorem NoNames.cons_fs {n : Nat} {c : Option Nat} {l : List MV} {a : List MV} (ha : NoNames a) : NoNames (.fs n c l :: a) := ⟨by simp [namesInL, namesIn, ha.1], fun look => by simp [norms, norm1, ha.2]⟩

theorem fillAt_get (en : List (Option Ent)) (n : Nat) (cs : List MV) (k : Nat) : (fillAt en n cs)[k]? = if k = n then (en[k]?).map (Option.map fun e => { e with cells := cs }) else en[k]? := by
  unfold fillAt
  rw [List.getD_eq_getElem?_getD]
  cases h : en[n]? with
  | none =>
    simp only [Option.getD_none]
    split
    · rename_i hk; subst hk; rw [h]; rfl
    · rfl
  | some x =>
    have hl : n < en.length := (List.getElem?_eq_some_iff.1 h).1
    cases x with
    | none =>
      simp only [Option.getD_some]
      split
      · rename_i hk; subst hk; rw [h]; rfl
      · rfl
    | some e =>
      simp only [Option.getD_some]
      rw [List.getElem?_set]
      split
      · rename_i hk; subst hk; rw [if_pos rfl, h]; rfl
      · rename_i hk; rw [if_neg (fun h => hk h.symm)]
theorem dropEn_get (w u : List Nat) : ∀ (en : List (Option Ent)) (i k : Nat), (dropEn w u i en)[k]? = (en[k]?).map fun e => if w.contains (i + k) && !u.contains (i + k) then none else e
  | [], _, _ => by simp [dropEn]
  | e :: es, i, 0 => by simp [dropEn]
  | e :: es, i, k + 1 => by
    simp only [dropEn, List.getElem?_cons_succ]
    rw [dropEn_get w u es (i + 1) k, show i + 1 + k = i + (k + 1) by omega]
theorem dropEn_fill (w u : List Nat) (en : List (Option Ent)) (n : Nat) (cs : List MV) : dropEn w u 0 (fillAt en n cs) = fillAt (dropEn w u 0 en) n cs := by
  apply List.ext_getElem?
  intro k
  rw [dropEn_get, fillAt_get, fillAt_get, dropEn_get]
  by_cases hk : k = n
  · rw [if_pos hk, if_pos hk]
    cases en[k]? with
    | none => rfl
    | some x => simp only [Option.map_some]; split <;> rfl
  · rw [if_neg hk, if_neg hk]
def cellsO : Option Ent → List MV
  | some e => e.cells
  | none => []
theorem namesInL_flatMap : ∀ l : List (Option Ent), namesInL (l.flatMap cellsO) = (l.map fun x => namesInL (cellsO x)).flatten
  | [] => rfl
  | x :: l => by simp [namesInL_append, namesInL_flatMap l]
theorem names_fill {en : List (Option Ent)} {n : Nat} {cs : List MV} (h : ∀ e, en.getD n none = some e → namesInL e.cells = []) (hc : namesInL cs = []) : (fillAt en n cs).map (fun x => namesInL (cellsO x)) = en.map fun x => namesInL (cellsO x) := by
  apply List.ext_getElem?
  intro k
  simp only [List.getElem?_map, fillAt_get]
  split
  · rename_i hk
    subst hk
    cases hx : en[k]? with
    | none => rfl
    | some x =>
      cases x with
      | none => rfl
      | some e =>
        have := h e (by rw [List.getD_eq_getElem?_getD, hx]; rfl)
        simp [cellsO, this, hc]
  · rfl
theorem entNames_fill {en : List (Option Ent)} {n : Nat} {cs : List MV} (h : ∀ e, en.getD n none = some e → namesInL e.cells = []) (hc : namesInL cs = []) (k : Nat) : entNames (fillAt en n cs) k = entNames en k := by
  have := congrArg (fun l => l[k]?) (names_fill h hc)
  simp only [List.getElem?_map] at this
  have hE : ∀ l : List (Option Ent), entNames l k = match l[k]? with | some x => namesInL (cellsO x) | none => [] := by
    intro l
    simp only [entNames, List.getD_eq_getElem?_getD]
    cases l[k]? with
    | none => rfl
    | some x => cases x <;> rfl
  rw [hE, hE]
  cases h1 : (fillAt en n cs)[k]? with
  | none =>
    rw [h1] at this
    cases h2 : en[k]? with
    | none => rfl
    | some x => rw [h2] at this; simp at this
  | some y =>
    rw [h1] at this
    cases h2 : en[k]? with
    | none => rw [h2] at this; simp at this
    | some x =>
      rw [h2] at this
      simpa using this
mutual
theorem norm1_congr {look look' : Nat → Option Ent} (h : ∀ n, (look n).map (·.gen) = (look' n).map (·.gen)) : ∀ m : MV, norm1 look m = norm1 look' m
  | .ptr nm g off => by
    have := h nm
    simp only [norm1]
    cases h1 : look nm <;> cases h2 : look' nm <;> rw [h1, h2] at this <;> simp at this
    all_goals first | rfl | simp only [this]
  | .row nm g off len cap sz => by
    have := h nm
    simp only [norm1]
    cases h1 : look nm <;> cases h2 : look' nm <;> rw [h1, h2] at this <;> simp at this
    all_goals first | rfl | simp only [this]
  | .agg cs => by simp only [norm1, norms_congr h cs]
  | .tup cs => by simp only [norm1, norms_congr h cs]
  | .fn f cs => by simp only [norm1, norms_congr h cs]
  | .sc _ => rfl
  | .fs _ _ _ => rfl
  | .cp _ => rfl
  | .any => rfl
theorem norms_congr {look look' : Nat → Option Ent} (h : ∀ n, (look n).map (·.gen) = (look' n).map (·.gen)) : ∀ ms : List MV, norms look ms = norms look' ms
  | [] => rfl
  | m :: ms => by simp only [norms, norm1_congr h m, norms_congr h ms]
end
def normE (look : Nat → Option Ent) : Option Ent → Option Ent
  | some e => some { gen := if e.gen = 0 then 0 else 1, cells := norms look e.cells, frozen := e.frozen }
  | none => none
theorem normSt_eq (w : List Nat) (st : St) : normSt w st =
    (let u1 := namesInL (wipe w 0 st.sl) ++ ((dropEn w [] 0 st.en).map fun x => namesInL (cellsO x)).flatten
     let u2 := u1 ++ u1.flatMap (entNames st.en)
     let D := dropEn w u2 0 st.en
     { sl := norms (fun n => D.getD n none) (wipe w 0 st.sl), en := D.map (normE fun n => D.getD n none), ck := 2 }) := by
  have hfm : normSt w st =
    (let u1 := namesInL (wipe w 0 st.sl) ++ namesInL ((dropEn w [] 0 st.en).flatMap cellsO)
     let u2 := u1 ++ u1.flatMap (entNames st.en)
     let D := dropEn w u2 0 st.en
     { sl := norms (fun n => D.getD n none) (wipe w 0 st.sl), en := D.map (normE fun n => D.getD n none), ck := 2 }) := rfl
  rw [hfm]
  simp only [namesInL_flatMap]
theorem norm_fill1 {w : List Nat} {st : St} {n : Nat} {cs : List MV} (h : ∀ e, st.en.getD n none = some e → NoNames e.cells) (hc : NoNames cs) :
    normSt w { st with en := fillAt st.en n cs } = { normSt w st with en := fillAt (normSt w st).en n cs } := by
  have h0 : ∀ e, st.en.getD n none = some e → namesInL e.cells = [] := fun e he => (h e he).1
  have hD0 : ∀ e, (dropEn w [] 0 st.en).getD n none = some e → namesInL e.cells = [] := fun e he => h0 e (dropEn_some w [] st.en 0 n e he)
  rw [normSt_eq, normSt_eq]
  simp only [dropEn_fill, names_fill hD0 hc.1]
  have hent : entNames (fillAt st.en n cs) = entNames st.en := funext fun k => entNames_fill h0 hc.1 k
  simp only [hent]
  generalize hu : (namesInL (wipe w 0 st.sl) ++ ((dropEn w [] 0 st.en).map fun x => namesInL (cellsO x)).flatten ++ List.flatMap (entNames st.en) (namesInL (wipe w 0 st.sl) ++ ((dropEn w [] 0 st.en).map fun x => namesInL (cellsO x)).flatten)) = u
  generalize hDD : dropEn w u 0 st.en = D
  have hD : ∀ e, D.getD n none = some e → NoNames e.cells := fun e he => h e (dropEn_some w u st.en 0 n e (by rw [hDD]; exact he))
  have hgen : ∀ k, (((fillAt D n cs).getD k none).map (·.gen)) = ((D.getD k none).map (·.gen)) := by
    intro k
    rw [List.getD_eq_getElem?_getD, List.getD_eq_getElem?_getD, fillAt_get]
    split
    · cases D[k]? with
      | none => rfl
      | some x => cases x <;> rfl
    · rfl
  have e1 : norms (fun k => (fillAt D n cs).getD k none) (wipe w 0 st.sl) = norms (fun k => D.getD k none) (wipe w 0 st.sl) := norms_congr hgen _
  have e2 : (fillAt D n cs).map (normE fun k => (fillAt D n cs).getD k none) = fillAt (D.map (normE fun k => D.getD k none)) n cs := by
    apply List.ext_getElem?
    intro k
    simp only [List.getElem?_map, fillAt_get]
    split
    · rename_i hk
      cases D[k]? with
      | none => rfl
      | some x =>
        cases x with
        | none => rfl
        | some e => simp [normE, hc.2]
    · cases D[k]? with
      | none => rfl
      | some x =>
        cases x with
        | none => rfl
        | some e => simp only [Option.map_some, normE, norms_congr hgen]
  rw [e1, e2]
theorem norm_fills {w : List Nat} : ∀ (fs : List (Nat × List MV)) (st : St), (∀ x ∈ fs, NoNames x.2) → (∀ x ∈ fs, ∀ e, st.en.getD x.1 none = some e → NoNames e.cells) → normSt w (fillSt st fs) = fillSt (normSt w st) fs
  | [], st, _, _ => rfl
  | (n, cs) :: r, st, h, h2 => by
    have hc := h (n, cs) (by simp)
    have := norm_fills (w := w) r { st with en := fillAt st.en n cs } (fun x hx => h x (by simp [hx])) (by
      intro x hx e he
      simp only [List.getD_eq_getElem?_getD, fillAt_get] at he
      split at he
      · rename_i hk
        cases hy : st.en[x.1]? with
        | none => rw [hy] at he; simp at he
        | some y =>
          cases y with
          | none => rw [hy] at he; simp at he
          | some e' => rw [hy] at he; simp at he; subst he; exact hc
      · exact h2 x (by simp [hx]) e (by rw [List.getD_eq_getElem?_getD]; exact he))
    rw [norm_fill1 (h2 (n, cs) (by simp)) hc] at this
    exact this
/-- The cells there, for certain none. -/
def emptyAt (en : List (Option Ent)) (fs : List (Nat × List MV)) : Bool := fs.all fun x => match en.getD x.1 none with
  | some e => e.cells.isEmpty
  | none => true
theorem norm_fill {w : List Nat} {S st0 n0 N : St} {fs : List (Nat × List MV)} (h1 : (S, emptyAt st0.en fs) = (fillSt st0 fs, true)) (h2 : normSt w st0 = n0) (h3 : fillSt n0 fs = N) (h : ∀ x ∈ fs, NoNames x.2) : normSt w S = N := by
  obtain ⟨rfl, h4⟩ := Prod.mk.inj h1
  rw [norm_fills fs st0 h, h2, h3]
  intro x hx e he
  have := List.all_eq_true.1 h4 x hx
  rw [he] at this
  simp only [List.isEmpty_iff] at this
  rw [this]
  exact NoNames.nil
end Go.Proofs.Ytkeelkeoijemiaa.Ev
