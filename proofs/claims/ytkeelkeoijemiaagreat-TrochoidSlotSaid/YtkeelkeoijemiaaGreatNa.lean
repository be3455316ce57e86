/- Tables and loops: what a deep table answers, and loops by their states at the head. Capacities may be forgotten; and what a call without rows to write does to the world. Cells that are numbers, truth values and slices of memory that nobody writes: they have no names. Tables that forget the capacities of what is handed in, and of what comes back. Functions that write to a row of letters: the frame at their begin. The program, and its functions by their names. Limbs: the digits of a number as cells. -/
import Derived.Test.YtkeelkeoijemiaaGreatEvX
import Derived.IntWalk
import Derived.Test.YtkeelkeoijemiaaGreatProg
import Derived.KernelRfl
set_option linter.unusedVariables false
set_option linter.unusedSimpArgs false
namespace Go.Proofs.YtkeelkeoijemiaaGreat.Ev
open Go Go.RowKit

mutual
/-- Without capacities. -/
def uncap : MV → MV
  | .fs n _ cs => .fs n none (uncaps cs)
  | .agg cs => .agg (uncaps cs)
  | .tup cs => .tup (uncaps cs)
  | .cp cs => .cp (uncaps cs)
  | .fn f cs => .fn f (uncaps cs)
  | m => m
def uncaps : List MV → List MV
  | [] => []
  | m :: ms => uncap m :: uncaps ms
end

def q0 : MV := .agg [.sc (.bool false), .fs 0 none [], .sc (.bool false), .fs 1 none [.sc (.int .u32 1)]]

/-- As the built-in functions answer. -/
def gmax (x y : Int) : Int := if y > x then y else x
def gmin (x y : Int) : Int := if y < x then y else x

variable {P : Program} {T : Tab}

/-- The bodies of a code's loops. -/
def loopsIn : Code → List Code
  | .loop c => c :: loopsIn c
  | .seq a b => loopsIn a ++ loopsIn b
  | .cond _ a b => loopsIn a ++ loopsIn b
  | .block _ c => loopsIn c
  | _ => []
def bodyOf (P : Program) (f : FuncId) (j : Nat) : Code := match P.funcs[f]? with
  | some fn => match fn.body with
    | some c => (loopsIn c).getD j .skip
    | none => .skip
  | none => .skip

/-- What a table tells beside its calls. -/
def Tab.has (T : Tab) (io : FuncId → List Nat) (dd : FuncId → List Nat × List (Nat × Nat)) : Prop := T.io = io ∧ T.dd = dd
theorem xCode_io {io : FuncId → List Nat} {dd : FuncId → List Nat × List (Nat × Nat)} {hard : Bool} {W : Code → List Nat} (hio : T.has io dd) {c : Code} {st s : St} {o : Out} {orc orc2 : List Ans} {b : List Prop} (e : xCode P T hard io W c st orc = some (o, s, orc2, b)) (hb : Owed b) : evalCode P T W FUEL c st = some (o, s) := by
  obtain ⟨rfl, _⟩ := hio
  exact xCode_sound c st s o orc orc2 b e hb
theorem xBody_io {io : FuncId → List Nat} {dd : FuncId → List Nat × List (Nat × Nat)} {hard : Bool} (hio : T.has io dd) {f : FuncId} {args : List MV} {orc : List Ans} {r : MV} {outs : List (List MV)} {b : List Prop} (e : xBody P T hard io dd f args orc = some (r, outs, b)) (hb : Owed b) : evalBody P T FUEL (io f) f args = some (r, outs) := by
  have := xBody_sound hio.1 hio.2 e hb
  rw [hio.1] at this
  exact this

/-- Cells without names. -/
def NoNames (cs : List MV) : Prop := namesInL cs = [] ∧ ∀ look, norms look cs = cs
def fillAt (en : List (Option Ent)) (n : Nat) (cs : List MV) : List (Option Ent) := match en.getD n none with
  | some e => en.set n (some { e with cells := cs })
  | none => en
def fillEn : List (Option Ent) → List (Nat × List MV) → List (Option Ent)
  | en, [] => en
  | en, (n, cs) :: r => fillEn (fillAt en n cs) r
def fillSt (st : St) (fs : List (Nat × List MV)) : St := { st with en := fillEn st.en fs }

theorem namesInL_append : ∀ a b : List MV, namesInL (a ++ b) = namesInL a ++ namesInL b
  | [], b => rfl
  | x :: a, b => by simp [namesInL, namesInL_append a b]
theorem norms_append (look : Nat → Option Ent) : ∀ a b : List MV, norms look (a ++ b) = norms look a ++ norms look b
  | [], b => rfl
  | x :: a, b => by simp [norms, norms_append look a b]
theorem NoNames.nil : NoNames [] := ⟨rfl, fun _ => rfl⟩
theorem NoNames.append {a b : List MV} (ha : NoNames a) (hb : NoNames b) : NoNames (a ++ b) := ⟨by rw [namesInL_append, ha.1, hb.1]; rfl, fun look => by rw [norms_append, ha.2, hb.2]⟩
theorem NoNames.cons_sc {v : Value} {a : List MV} (ha : NoNames a) : NoNames (.sc v :: a) := ⟨by simp [namesInL, namesIn, ha.1], fun look => by simp [norms, norm1, ha.2]⟩
theorem fillAt_get (en : List (Option Ent)) (n : Nat) (cs : List MV) (k : Nat) : (fillAt en n cs)[k]? = if k = n then (en[k]?).map (Option.map fun e => { e with cells := cs }) else en[k]? := by
  unfold fillAt
  rw [List.getD_eq_getElem?_getD]
  cases h : en[n]? with
  | none =>
    simp only [Option.getD_none]
    split
    · rename_i hk; subst hk; rw [h]; rfl
    · rfl
  | some x =>
    have hl : n < en.length := (List.getElem?_eq_some_iff.1 h).1
    cases x with
    | none =>
      simp only [Option.getD_some]
      split
      · rename_i hk; subst hk; rw [h]; rfl
      · rfl
    | some e =>
      simp only [Option.getD_some]
      rw [List.getElem?_set]
      split
      · rename_i hk; subst hk; rw [if_pos rfl, h]; rfl
      · rename_i hk; rw [if_neg (fun h => hk h.symm)]
theorem dropEn_get (w u : List Nat) : ∀ (en : List (Option Ent)) (i k : Nat), (dropEn w u i en)[k]? = (en[k]?).map fun e => if w.contains (i + k) && !u.contains (i + k) then none else e
  | [], _, _ => by simp [dropEn]
  | e :: es, i, 0 => by simp [dropEn]
  | e :: es, i, k + 1 => by
    simp only [dropEn, List.getElem?_cons_succ]
    rw [dropEn_get w u es (i + 1) k, show i + 1 + k = i + (k + 1) by omega]
theorem dropEn_fill (w u : List Nat) (en : List (Option Ent)) (n : Nat) (cs : List MV) : dropEn w u 0 (fillAt en n cs) = fillAt (dropEn w u 0 en) n cs := by
  apply List.ext_getElem?
  intro k
  rw [dropEn_get, fillAt_get, fillAt_get, dropEn_get]
  by_cases hk : k = n
  · rw [if_pos hk, if_pos hk]
    cases en[k]? with
    | none => rfl
    | some x => simp only [Option.map_some]; split <;> rfl
  · rw [if_neg hk, if_neg hk]
def cellsO : Option Ent → List MV
  | some e => e.cells
  | none => []
theorem namesInL_flatMap : ∀ l : List (Option Ent), namesInL (l.flatMap cellsO) = (l.map fun x => namesInL (cellsO x)).flatten
  | [] => rfl
  | x :: l => by simp [namesInL_append, namesInL_flatMap l]
theorem names_fill {en : List (Option Ent)} {n : Nat} {cs : List MV} (h : ∀ e, en.getD n none = some e → namesInL e.cells = []) (hc : namesInL cs = []) : (fillAt en n cs).map (fun x => namesInL (cellsO x)) = en.map fun x => namesInL (cellsO x) := by
  apply List.ext_getElem?
  intro k
  simp only [List.getElem?_map, fillAt_get]
  split
  · rename_i hk
    subst hk
    cases hx : en[k]? with
    | none => rfl
    | some x =>
      cases x with
      | none => rfl
      | some e =>
        have := h e (by rw [List.getD_eq_getElem?_getD, hx]; rfl)
        simp [cellsO, this, hc]
  · rfl
theorem entNames_fill {en : List (Option Ent)} {n : Nat} {cs : List MV} (h : ∀ e, en.getD n none = some e → namesInL e.cells = []) (hc : namesInL cs = []) (k : Nat) : entNames (fillAt en n cs) k = entNames en k := by
  have := congrArg (fun l => l[k]?) (names_fill h hc)
  simp only [List.getElem?_map] at this
  have hE : ∀ l : List (Option Ent), entNames l k = match l[k]? with | some x => namesInL (cellsO x) | none => [] := by
    intro l
    simp only [entNames, List.getD_eq_getElem?_getD]
    cases l[k]? with
    | none => rfl
    | some x => cases x <;> rfl
  rw [hE, hE]
  cases h1 : (fillAt en n cs)[k]? with
  | none =>
    rw [h1] at this
    cases h2 : en[k]? with
    | none => rfl
    | some x => rw [h2] at this; simp at this
  | some y =>
    rw [h1] at this
    cases h2 : en[k]? with
    | none => rw [h2] at this; simp at this
    | some x =>
      rw [h2] at this
      simpa using this
mutual
theorem norm1_congr {look look' : Nat → Option Ent} (h : ∀ n, (look n).map (·.gen) = (look' n).map (·.gen)) : ∀ m : MV, norm1 look m = norm1 look' m
  | .ptr nm g off => by
    have := h nm
    simp only [norm1]
    cases h1 : look nm <;> cases h2 : look' nm <;> rw [h1, h2] at this <;> simp at this
    all_goals first | rfl | simp only [this]
  | .row nm g off len cap sz => by
    have := h nm
    simp only [norm1]
    cases h1 : look nm <;> cases h2 : look' nm <;> rw [h1, h2] at this <;> simp at this
    all_goals first | rfl | simp only [this]
  | .agg cs => by simp only [norm1, norms_congr h cs]
  | .tup cs => by simp only [norm1, norms_congr h cs]
  | .fn f cs => by simp only [norm1, norms_congr h cs]
  | .sc _ => rfl
  | .fs _ _ _ => rfl
  | .cp _ => rfl
  | .any => rfl
theorem norms_congr {look look' : Nat → Option Ent} (h : ∀ n, (look n).map (·.gen) = (look' n).map (·.gen)) : ∀ ms : List MV, norms look ms = norms look' ms
  | [] => rfl
  | m :: ms => by simp only [norms, norm1_congr h m, norms_congr h ms]
end
def normE (look : Nat → Option Ent) : Option Ent → Option Ent
  | some e => some { gen := if e.gen = 0 then 0 else 1, cells := norms look e.cells, frozen := e.frozen }
  | none => none
theorem normSt_eq (w : List Nat) (st : St) : normSt w st =
    (let u1 := namesInL (wipe w 0 st.sl) ++ ((dropEn w [] 0 st.en).map fun x => namesInL (cellsO x)).flatten
     let u2 := u1 ++ u1.flatMap (entNames st.en)
     let D := dropEn w u2 0 st.en
     { sl := norms (fun n => D.getD n none) (wipe w 0 st.sl), en := D.map (normE fun n => D.getD n none), ck := 2 }) := by
  have hfm : normSt w st =
    (let u1 := namesInL (wipe w 0 st.sl) ++ namesInL ((dropEn w [] 0 st.en).flatMap cellsO)
     let u2 := u1 ++ u1.flatMap (entNames st.en)
     let D := dropEn w u2 0 st.en
     { sl := norms (fun n => D.getD n none) (wipe w 0 st.sl), en := D.map (normE fun n => D.getD n none), ck := 2 }) := rfl
  rw [hfm]
  simp only [namesInL_flatMap]
theorem norm_fill1 {w : List Nat} {st : St} {n : Nat} {cs : List MV} (h : ∀ e, st.en.getD n none = some e → NoNames e.cells) (hc : NoNames cs) :
    normSt w { st with en := fillAt st.en n cs } = { normSt w st with en := fillAt (normSt w st).en n cs } := by
  have h0 : ∀ e, st.en.getD n none = some e → namesInL e.cells = [] := fun e he => (h e he).1
  have hD0 : ∀ e, (dropEn w [] 0 st.en).getD n none = some e → namesInL e.cells = [] := fun e he => h0 e (dropEn_some w [] st.en 0 n e he)
  rw [normSt_eq, normSt_eq]
  simp only [dropEn_fill, names_fill hD0 hc.1]
  have hent : entNames (fillAt st.en n cs) = entNames st.en := funext fun k => entNames_fill h0 hc.1 k
  simp only [hent]
  generalize hu : (namesInL (wipe w 0 st.sl) ++ ((dropEn w [] 0 st.en).map fun x => namesInL (cellsO x)).flatten ++ List.flatMap (entNames st.en) (namesInL (wipe w 0 st.sl) ++ ((dropEn w [] 0 st.en).map fun x => namesInL (cellsO x)).flatten)) = u
  generalize hDD : dropEn w u 0 st.en = D
  have hD : ∀ e, D.getD n none = some e → NoNames e.cells := fun e he => h e (dropEn_some w u st.en 0 n e (by rw [hDD]; exact he))
  have hgen : ∀ k, (((fillAt D n cs).getD k none).map (·.gen)) = ((D.getD k none).map (·.gen)) := by
    intro k
    rw [List.getD_eq_getElem?_getD, List.getD_eq_getElem?_getD, fillAt_get]
    split
    · cases D[k]? with
      | none => rfl
      | some x => cases x <;> rfl
    · rfl
  have e1 : norms (fun k => (fillAt D n cs).getD k none) (wipe w 0 st.sl) = norms (fun k => D.getD k none) (wipe w 0 st.sl) := norms_congr hgen _
  have e2 : (fillAt D n cs).map (normE fun k => (fillAt D n cs).getD k none) = fillAt (D.map (normE fun k => D.getD k none)) n cs := by
    apply List.ext_getElem?
    intro k
    simp only [List.getElem?_map, fillAt_get]
    split
    · rename_i hk
      cases D[k]? with
      | none => rfl
      | some x =>
        cases x with
        | none => rfl
        | some e => simp [normE, hc.2]
    · cases D[k]? with
      | none => rfl
      | some x =>
        cases x with
        | none => rfl
        | some e => simp only [Option.map_some, normE, norms_congr hgen]
  rw [e1, e2]
theorem norm_fills {w : List Nat} : ∀ (fs : List (Nat × List MV)) (st : St), (∀ x ∈ fs, NoNames x.2) → (∀ x ∈ fs, ∀ e, st.en.getD x.1 none = some e → NoNames e.cells) → normSt w (fillSt st fs) = fillSt (normSt w st) fs
  | [], st, _, _ => rfl
  | (n, cs) :: r, st, h, h2 => by
    have hc := h (n, cs) (by simp)
    have := norm_fills (w := w) r { st with en := fillAt st.en n cs } (fun x hx => h x (by simp [hx])) (by
      intro x hx e he
      simp only [List.getD_eq_getElem?_getD, fillAt_get] at he
      split at he
      · rename_i hk
        cases hy : st.en[x.1]? with
        | none => rw [hy] at he; simp at he
        | some y =>
          cases y with
          | none => rw [hy] at he; simp at he
          | some e' => rw [hy] at he; simp at he; subst he; exact hc
      · exact h2 x (by simp [hx]) e (by rw [List.getD_eq_getElem?_getD]; exact he))
    rw [norm_fill1 (h2 (n, cs) (by simp)) hc] at this
    exact this
/-- The cells there, for certain none. -/
def emptyAt (en : List (Option Ent)) (fs : List (Nat × List MV)) : Bool := fs.all fun x => match en.getD x.1 none with
  | some e => e.cells.isEmpty
  | none => true
theorem norm_fill {w : List Nat} {S st0 n0 N : St} {fs : List (Nat × List MV)} (h1 : (S, emptyAt st0.en fs) = (fillSt st0 fs, true)) (h2 : normSt w st0 = n0) (h3 : fillSt n0 fs = N) (h : ∀ x ∈ fs, NoNames x.2) : normSt w S = N := by
  obtain ⟨rfl, h4⟩ := Prod.mk.inj h1
  rw [norm_fills fs st0 h, h2, h3]
  intro x hx e he
  have := List.all_eq_true.1 h4 x hx
  rw [he] at this
  simp only [List.isEmpty_iff] at this
  rw [this]
  exact NoNames.nil
end Go.Proofs.YtkeelkeoijemiaaGreat.Ev

namespace Go.Proofs.YtkeelkeoijemiaaGreat.Ev
open Go Go.RowKit

variable {P : Program} {w : World} {ok : Nat → Prop}

mutual
theorem VR_uncap {R : Nat → Nat → Option (Nat × Nat)} : ∀ (m : MV) (x : Value), VR w ok R m x → VR w ok R (uncap m) x
  | .sc _, _, h => h
  | .agg cs, _, ⟨vs, e, h⟩ => ⟨vs, e, VRs_uncap cs vs h⟩
  | .tup cs, _, ⟨vs, e, h⟩ => ⟨vs, e, VRs_uncap cs vs h⟩
  | .fn _ cs, _, ⟨vs, e, h⟩ => ⟨vs, e, VRs_uncap cs vs h⟩
  | .fs len cap cs, _, ⟨a, c, e, h1, h2, h⟩ => ⟨a, c, e, h1, fun k hk => (by cases hk), by
      rcases h with ⟨h3, h4, h5⟩ | ⟨b, o, vs, h3, h4, h5, h6⟩
      · exact .inl ⟨h3, by rw [h4]; rfl, h5⟩
      · exact .inr ⟨b, o, vs, h3, h4, h5, VRs_uncap cs vs h6⟩⟩
  | .cp cs, _, ⟨b, o, vs, e, hb, hc, hv⟩ => ⟨b, o, vs, e, hb, hc, VRs_uncap cs vs hv⟩
  | .row _ _ _ _ _ _, _, h => h
  | .ptr _ _ _, _, h => h
  | .any, _, _ => trivial
theorem VRs_uncap {R : Nat → Nat → Option (Nat × Nat)} : ∀ (ms : List MV) (vs : List Value), VRs w ok R ms vs → VRs w ok R (uncaps ms) vs
  | [], _, h => h
  | m :: ms, _, ⟨v, vt, e, h, hs⟩ => ⟨v, vt, e, VR_uncap m v h, VRs_uncap ms vt hs⟩
end

theorem ArgsR_uncap : ∀ (ms : List MV) (i : Nat) (vs : List Value) (ios : List IOw), ArgsR w ok [] i ms vs ios → ArgsR w ok [] i (uncaps ms) vs ios
  | [], _, _, _, h => h
  | m :: ms, i, _, ios, ⟨v, vt, e, h⟩ => by
    refine ⟨v, vt, e, ?_⟩
    simp only [List.contains_nil, Bool.false_eq_true, if_false] at h ⊢
    exact ⟨VR_uncap m v h.1, ArgsR_uncap ms (i + 1) vt ios h.2⟩

theorem CallOK.uncap {f : FuncId} {args : List MV} {r : MV} {o : List (List MV)} (h : CallOK P [] f (uncaps args) r o) : CallOK P [] f args r o :=
  ⟨h.1, fun w ok vs ios h1 h2 h3 => h.2 w ok vs ios h1 h2 (ArgsR_uncap args 0 vs ios h3)⟩

/-- A call by values alone that answers a plain value. -/
theorem CallOK.below {f : FuncId} {args : List MV} {r : Value} (h : CallOK P [] f args (.sc r) []) {W : World} {ok : Nat → Prop} {vs : List Value} (hok : ∀ b, ok b → b < W.heap.size) (ha : ArgsR W ok [] 0 args vs []) :
    Calls P f ⟨vs⟩ W fun e W' => e = .returned r ∧ Below W.heap.size W W' := by
  refine (h.2 W ok vs [] ⟨fun x hx => (by cases hx), fun x hx => (by cases hx), fun x hx => (by cases hx)⟩ hok ha).mono ?_
  rintro e W' ⟨x, rfl, hp⟩
  have hx : x = r := hp.res
  subst hx
  exact ⟨rfl, hp.os, hp.tape, hp.output, hp.size, fun k hk => hp.low k hk (fun y hy => by cases hy)⟩
end Go.Proofs.YtkeelkeoijemiaaGreat.Ev

namespace Go.Proofs.YtkeelkeoijemiaaGreat.Ev
open Go Go.RowKit

def leaf : MV → Bool
  | .sc (.int _ _) => true
  | .sc (.bool _) => true
  | .fs _ _ _ => true
  | _ => false
def Leaves (cs : List MV) : Prop := ∀ m ∈ cs, leaf m = true

theorem Leaves.nil : Leaves [] := fun _ h => by cases h
theorem Leaves.cons {m : MV} {cs : List MV} (h1 : leaf m = true) (h2 : Leaves cs) : Leaves (m :: cs) := fun x hx => by
  rcases List.mem_cons.1 hx with rfl | hx
  · exact h1
  · exact h2 x hx
theorem Leaves.append {a b : List MV} (ha : Leaves a) (hb : Leaves b) : Leaves (a ++ b) := fun x hx => (List.mem_append.1 hx).elim (ha x) (hb x)
theorem Leaves.take {a : List MV} (ha : Leaves a) (n : Nat) : Leaves (a.take n) := fun x hx => ha x (List.mem_of_mem_take hx)
theorem Leaves.drop {a : List MV} (ha : Leaves a) (n : Nat) : Leaves (a.drop n) := fun x hx => ha x (List.mem_of_mem_drop hx)
theorem leaf_norm {m : MV} (h : leaf m = true) (look : Nat → Option Ent) : norm1 look m = m := by
  unfold leaf at h
  split at h <;> first | rfl | cases h
theorem leaf_names {m : MV} (h : leaf m = true) : namesIn m = [] := by
  unfold leaf at h
  split at h <;> first | rfl | cases h
theorem leaf_cell {m : MV} (h : leaf m = true) : cellOk m = true := by
  unfold leaf at h
  split at h <;> first | rfl | cases h
theorem leaf_freeze {m : MV} (h : leaf m = true) (en : Nat → Option Ent) (k : Nat) : freeze en (k + 1) m = some (m, []) := by
  unfold leaf at h
  split at h <;> first | rfl | cases h
theorem Leaves.tail {m : MV} {cs : List MV} (h : Leaves (m :: cs)) : Leaves cs := fun x hx => h x (by simp [hx])
theorem Leaves.noNames : ∀ {cs : List MV}, Leaves cs → NoNames cs
  | [], _ => NoNames.nil
  | m :: cs, h => by
    have ih := Leaves.noNames h.tail
    have hm := h m (by simp)
    exact ⟨by simp [namesInL, leaf_names hm, ih.1], fun look => by simp [norms, leaf_norm hm, ih.2]⟩
theorem Leaves.cellOk : ∀ {cs : List MV}, Leaves cs → cs.all Ev.cellOk = true := fun h => List.all_eq_true.2 fun m hm => leaf_cell (h m hm)
theorem Leaves.freezes (en : Nat → Option Ent) : ∀ (cs : List MV) (k : Nat), Leaves cs → cs.length + 1 < k → Ev.freezes en k cs = some (cs, [])
  | [], k + 1, _, _ => rfl
  | m :: cs, k + 2, h, hk => by
    simp only [List.length_cons] at hk
    simp only [Ev.freezes, leaf_freeze (h m (by simp)) en k, Leaves.freezes en cs (k + 1) h.tail (by omega)]
    rfl
  | [], 0, _, hk => by omega
  | _ :: _, 0, _, hk => by omega
  | _ :: _, 1, _, hk => by simp at hk
theorem Leaves.plain {cs : List MV} (h : Leaves cs) (hl : cs.length < 999990) : Plain cs := fun en => Leaves.freezes en cs 999999 h (by omega)
theorem Leaves.bare {cs : List MV} (h : Leaves cs) (hl : cs.length < 999990) : bare cs = true := by
  unfold Ev.bare
  rw [Leaves.freezes _ cs FUEL h (by unfold FUEL; omega)]

theorem sc_b {x y : Bool} (h : x = y) : (MV.sc (.bool x) : MV) = .sc (.bool y) := by rw [h]
/-- What slots hold that nobody looks at any more. -/
def jI (l : List Int) (n : Nat) : Int := l.getD n 0
def jB (l : List Bool) (n : Nat) : Bool := l.getD n false
end Go.Proofs.YtkeelkeoijemiaaGreat.Ev

namespace Go.Proofs.YtkeelkeoijemiaaGreat.Ev
open Go Go.RowKit

variable {P : Program} {T : Tab}

/-- The arguments without capacities, but those that are written to. -/
def uncapsAt (io : List Nat) : Nat → List MV → List MV
  | _, [] => []
  | i, m :: ms => (if io.contains i then m else uncap m) :: uncapsAt io (i + 1) ms

theorem ArgsR_uncapsAt {w : World} {ok : Nat → Prop} {io : List Nat} : ∀ (ms : List MV) (i : Nat) (vs : List Value) (ios : List IOw), ArgsR w ok io i ms vs ios → ArgsR w ok io i (uncapsAt io i ms) vs ios
  | [], _, _, _, h => h
  | m :: ms, i, _, ios, ⟨v, vt, e, h⟩ => by
    refine ⟨v, vt, e, ?_⟩
    split at h
    · rename_i hi
      obtain ⟨y, ys, e2, h1, h2⟩ := h
      simp only [hi, if_true]
      exact ⟨y, ys, e2, h1, ArgsR_uncapsAt ms (i + 1) vt ys h2⟩
    · rename_i hi
      simp only [hi]
      exact ⟨VR_uncap m v h.1, ArgsR_uncapsAt ms (i + 1) vt ios h.2⟩

theorem CallOK.uncapArgs {io : List Nat} {f : FuncId} {args : List MV} {r : MV} {o : List (List MV)} (h : CallOK P io f (uncapsAt io 0 args) r o) : CallOK P io f args r o :=
  ⟨h.1, fun w ok vs ios h1 h2 h3 => h.2 w ok vs ios h1 h2 (ArgsR_uncapsAt args 0 vs ios h3)⟩
theorem CallOK.uncapRes {io : List Nat} {f : FuncId} {args : List MV} {r : MV} {o : List (List MV)} (h : CallOK P io f args r o) : CallOK P io f args (Ev.uncap r) o :=
  ⟨h.1, fun w ok vs ios h1 h2 h3 => (h.2 w ok vs ios h1 h2 h3).mono (by
    rintro e w' ⟨x, hx, hp⟩
    exact ⟨x, hx, ⟨hp.os, hp.tape, hp.output, hp.size, hp.low, hp.ioK, VR_uncap r x hp.res, hp.outs⟩⟩)⟩

/-- Calls so many deep, by a table first; capacities are forgotten, but of what the functions named by 'kp' answer. -/
def Tab.deepU (P : Program) (T : Tab) (k : Nat) (kp : FuncId → Bool) : Nat → Tab
  | 0 => T
  | n + 1 => { T with call := fun f args => match T.call f (uncapsAt (T.io f) 0 args) with
      | some r => some r
      | none => match evalBody P (Tab.deepU P T k kp n) k (T.io f) f (uncapsAt (T.io f) 0 args) with
        | some (r, o) => some (if kp f then r else uncap r, o)
        | none => none }
theorem Tab.deepU_io (T : Tab) (k : Nat) (kp : FuncId → Bool) (n : Nat) : (T.deepU P k kp n).io = T.io := by cases n <;> rfl
theorem Tab.deepU_dd (T : Tab) (k : Nat) (kp : FuncId → Bool) (n : Nat) : (T.deepU P k kp n).dd = T.dd := by cases n <;> rfl
theorem Tab.deepU_ok (hm : P.follows .mixedOrders = true) (hn : ∀ fn ∈ P.funcs, (fn.name == "runtime.NumGoroutine") = false) (hT : TabOK P T) (k : Nat) (kp : FuncId → Bool) : ∀ n, TabOK P (T.deepU P k kp n)
  | 0 => hT
  | n + 1 => by
    intro f args res outs e
    simp only [Tab.deepU] at e
    rw [Tab.deepU_io]
    split at e
    · rename_i r hr
      cases e
      exact CallOK.uncapArgs (hT f _ _ _ hr)
    · cases h : evalBody P (Tab.deepU P T k kp n) k (T.io f) f (uncapsAt (T.io f) 0 args) with
      | none => rw [h] at e; cases e
      | some x =>
        obtain ⟨r, o⟩ := x
        rw [h] at e
        have h2 : CallOK P (T.io f) f (uncapsAt (T.io f) 0 args) r o := body_sound hm hn (Tab.deepU_ok hm hn hT k kp n) h
        simp only [Option.some.injEq, Prod.mk.injEq] at e
        obtain ⟨rfl, rfl⟩ := e
        split
        · exact CallOK.uncapArgs h2
        · exact CallOK.uncapArgs (CallOK.uncapRes h2)
/-- A call of a function that the table does not tell. -/
theorem deepU_call {k n : Nat} {kp : FuncId → Bool} {f : FuncId} {args args' : List MV} {r r' : MV} {o : List (List MV)} (ha : uncapsAt (T.io f) 0 args = args') (h0 : T.call f args' = none)
    (h : evalBody P (T.deepU P k kp n) k (T.io f) f args' = some (r, o)) (hr : (if kp f then r else uncap r) = r') : (T.deepU P k kp (n + 1)).call f args = some (r', o) := by
  subst ha
  simp only [Tab.deepU, h0, h, hr]
end Go.Proofs.YtkeelkeoijemiaaGreat.Ev

namespace Go.Proofs.YtkeelkeoijemiaaGreat.Ev
open Go Go.RowKit

/-- The frame at a function's begin. -/
def startOf (P : Program) (io : FuncId → List Nat) (f : FuncId) (args : List MV) : Option (List MV) := match P.funcs[f]? with
  | some fn => startSl P (io f) fn.params.toList 0 args
  | none => none
def xBodyS (P : Program) (T : Tab) (hard : Bool) (io : FuncId → List Nat) (dd : FuncId → List Nat × List (Nat × Nat)) (f : FuncId) (args sl : List MV) (orc : List Ans) : Option (MV × List (List MV) × List Prop) :=
  match P.funcs[f]? with
  | none => none
  | some fn => match fn.body with
    | some c =>
      match xCode P T hard io (deadAt (dd f)) c { sl := sl ++ List.replicate (fn.ntmps - args.length) undefM, en := startEn (io f) 0 args ++ List.replicate (fn.ntmps - args.length) none, ck := 1 } orc with
      | some (.normal, st, _, b) | some (.ret, st, _, b) => match xRes P hard st fn.results.toList, xOuts st ((List.range' 0 args.length).filter fun i => (io f).contains i) with
        | some ([v], b1), some (o, b2) => some (v, o, b ++ b1 ++ b2)
        | some (vs, b1), some (o, b2) => some (.tup vs, o, b ++ b1 ++ b2)
        | _, _ => none
      | _ => none
    | _ => none
theorem xBodyS_eq {P : Program} {T : Tab} {hard : Bool} {io : FuncId → List Nat} {dd : FuncId → List Nat × List (Nat × Nat)} {f : FuncId} {args sl : List MV} {orc : List Ans} (hs : startOf P io f args = some sl) : xBody P T hard io dd f args orc = xBodyS P T hard io dd f args sl orc := by
  unfold startOf at hs
  unfold xBody xBodyS
  cases hf : P.funcs[f]? with
  | none => rfl
  | some fn =>
    rw [hf] at hs
    simp only at hs
    simp only [hs]
    cases fn.body <;> rfl
theorem xBodyS_io {P : Program} {T : Tab} {io : FuncId → List Nat} {dd : FuncId → List Nat × List (Nat × Nat)} {hard : Bool} (hio : T.has io dd) {f : FuncId} {args sl : List MV} {orc : List Ans} {r : MV} {outs : List (List MV)} {b : List Prop} (hs : startOf P io f args = some sl) (e : xBodyS P T hard io dd f args sl orc = some (r, outs, b)) (hb : Owed b) : evalBody P T FUEL (io f) f args = some (r, outs) :=
  xBody_io hio ((xBodyS_eq hs).trans e) hb

theorem startSl_nil {P : Program} {params : List TypeId} : ∀ (ms : List MV) (i : Nat), 0 < i → startSl P [0] params i ms = some ms
  | [], _, _ => rfl
  | m :: ms, i, h => by
    simp only [startSl, startSl_nil ms (i + 1) (by omega)]
    have : ([0] : List Nat).contains i = false := by simp; omega
    rw [this]; rfl
theorem startSl_row {P : Program} {t e : TypeId} {ts : List TypeId} {n : Nat} {cs : List MV} {c : Option Nat} {ms : List MV} (h1 : sliceO P t = some e) (h2 : szO P e = some 1) (hn : 0 < n) (hl : cs.length = n) : startSl P [0] (t :: ts) 0 (.fs n c cs :: ms) = some (.row 0 0 0 n none 1 :: ms) := by
  simp only [startSl, startSl_nil ms (0 + 1) (by omega)]
  simp [h1, h2, hn, hl]
/-- Is a function's first parameter a slice of one-cell elements? -/
def ioOk (P : Program) (f : FuncId) : Bool := match P.funcs[f]? with
  | some fn => match fn.params.toList with
    | t :: _ => match sliceO P t with
      | some e => szO P e == some 1
      | none => false
    | [] => false
  | none => false
theorem startOf_row {P : Program} {io : FuncId → List Nat} {f : FuncId} {n : Nat} {cs : List MV} {c : Option Nat} {ms : List MV} (h : ioOk P f = true) (hio : io f = [0]) (hn : 0 < n) (hl : cs.length = n) : startOf P io f (.fs n c cs :: ms) = some (.row 0 0 0 n none 1 :: ms) := by
  unfold ioOk at h
  unfold startOf
  rw [hio]
  split at h
  · rename_i fn hf
    split at h
    · rename_i t ts hp
      split at h
      · rename_i e he
        simp only [hf, hp]
        exact startSl_row he (by simpa using h) hn hl
      · cases h
    · cases h
  · cases h
end Go.Proofs.YtkeelkeoijemiaaGreat.Ev

namespace Go.Proofs.YtkeelkeoijemiaaGreat.Ev
open Go

noncomputable abbrev PG : Program := Go.Proofs.Tryz.prog
abbrev fn_law34_TrochoidSlot : Nat := 4
abbrev fn_ref02_Frac : Nat := 6
abbrev fn_law34_awake : Nat := 7
abbrev fn_trochoid_Engaged : Nat := 8
abbrev fn_ref34_Engaged : Nat := 9
abbrev fn_ref34_Slot : Nat := 10
abbrev fn_trochoid_Slot : Nat := 11
abbrev fn_ref34_SameMoves : Nat := 12
abbrev fn_ref34_Centers : Nat := 13
abbrev fn_ref34_Direction : Nat := 14
abbrev fn_ref02_Add : Nat := 15
abbrev fn_ref34_Swept : Nat := 18
abbrev fn_ref02_Sub : Nat := 19
abbrev fn_ref02_Sign : Nat := 20
abbrev fn_ref02_Cmp : Nat := 21
abbrev fn_ref02_Square : Nat := 22
abbrev fn_ref02_Of : Nat := 23
abbrev fn_ref01_FromInt64 : Nat := 24
abbrev fn_trochoid_Path : Nat := 26
abbrev fn_ref34_Same : Nat := 28
abbrev fn_trochoid_cosine : Nat := 29
abbrev fn_trochoid_direction : Nat := 30
abbrev fn_ref34_cosine : Nat := 34
abbrev fn_ref34_out : Nat := 35
abbrev fn_ref34_Pair : Nat := 36
abbrev fn_ref34_check : Nat := 37
abbrev fn_ref34_Step : Nat := 38
abbrev fn_ref34_Path : Nat := 39
abbrev fn_trochoid_round : Nat := 40
abbrev fn_engagement_Step : Nat := 41
abbrev fn_ref34_side : Nat := 44
abbrev fn_ref01_Mul : Nat := 45
abbrev fn_ref01_Add : Nat := 46
abbrev fn_ref02_FromInt64 : Nat := 47
abbrev fn_rational_FromInt64 : Nat := 48
abbrev fn_rational_Cmp : Nat := 51
abbrev fn_distance_Segments : Nat := 52
abbrev fn_rational_Mul : Nat := 53
abbrev fn_ref02_Neg : Nat := 55
abbrev fn_ref01_Sign : Nat := 56
abbrev fn_ref01_Cmp : Nat := 57
abbrev fn_ref02_Mul : Nat := 58
abbrev fn_ref01_Neg : Nat := 59
abbrev fn_ref01_GCD : Nat := 60
abbrev fn_ref01_DivMod : Nat := 61
abbrev fn_ref01_signed : Nat := 62
abbrev fn_ref01_limbs : Nat := 63
abbrev fn_trochoid_centers : Nat := 64
abbrev fn_rational_Neg : Nat := 66
abbrev fn_trochoid_compare : Nat := 68
abbrev fn_trochoid_grid_1 : Nat := 70
abbrev fn_ref34_far : Nat := 71
abbrev fn_engagement_cosine : Nat := 74
abbrev fn_sort_Search : Nat := 75
abbrev fn_engagement_Step_1 : Nat := 76
abbrev fn_engagement_allowed : Nat := 77
abbrev fn_ref01_times : Nat := 78
abbrev fn_ref01_plus : Nat := 79
abbrev fn_ref01_compare : Nat := 80
abbrev fn_ref01_minus : Nat := 81
abbrev fn_ref02_unit : Nat := 82
abbrev fn_rational_whole : Nat := 83
abbrev fn_integer_FromInt64 : Nat := 84
abbrev fn_slices_IndexFunc_api_Grid2 : Nat := 85
abbrev fn_cmp_Compare_int : Nat := 86
abbrev fn_rational_Sign : Nat := 87
abbrev fn_integer_Cmp : Nat := 88
abbrev fn_integer_Mul : Nat := 89
abbrev fn_rational_reduce : Nat := 92
abbrev fn_ref01_parts : Nat := 93
abbrev fn_ref01_short : Nat := 94
abbrev fn_ref01_Sub : Nat := 95
abbrev fn_ref01_trim : Nat := 96
abbrev fn_integer_Neg : Nat := 97
abbrev fn_slices_IndexFunc_int64 : Nat := 98
abbrev fn_ref02_Over : Nat := 99
abbrev fn_rational_unit : Nat := 104
abbrev fn_integer_signed : Nat := 105
abbrev fn_integer_split : Nat := 106
abbrev fn_cmp_isNaN_int : Nat := 107
abbrev fn_integer_Sign : Nat := 108
abbrev fn_integer_compare : Nat := 109
abbrev fn_integer_times : Nat := 110
abbrev fn_integer_GCD : Nat := 116
abbrev fn_rational_exact : Nat := 117
abbrev fn_ref01_by : Nat := 118
abbrev fn_ref02_Div : Nat := 119
abbrev fn_rational_Div : Nat := 120
abbrev fn_rational_Sub : Nat := 121
abbrev fn_rational_Add : Nat := 122
abbrev fn_integer_trim : Nat := 123
abbrev fn_integer_word : Nat := 126
abbrev fn_integer_divide : Nat := 127
abbrev fn_integer_DivMod : Nat := 128
abbrev fn_ref02_Make : Nat := 129
abbrev fn_integer_Add : Nat := 130
abbrev fn_integer_byWord : Nat := 131
abbrev fn_integer_subtract : Nat := 132
abbrev fn_integer_restore : Nat := 133
abbrev fn_integer_Sub : Nat := 134
abbrev fn_integer_plus : Nat := 135
abbrev fn_integer_minus : Nat := 136
def ioF (f : FuncId) : List Nat := if f = fn_integer_subtract ∨ f = fn_integer_restore then [0] else []
def kpF (f : FuncId) : Bool := f == fn_integer_times
/-- What may be forgotten at the heads of a function's loops. -/
def ddF (f : FuncId) : List Nat × List (Nat × Nat) := if f = fn_trochoid_Engaged then ([17, 18, 19, 20, 21, 22, 23, 24, 25, 26, 27, 28, 29, 30, 31, 32, 33, 34, 35, 37, 38, 39, 40, 41, 42, 43, 36, 44, 45, 49, 50, 51, 52, 53, 54, 55, 56, 57, 58, 59, 60, 61, 62, 63, 64, 65, 67, 68, 69, 70, 71, 72, 73, 66, 74, 75, 76, 77, 78, 79, 80, 81, 82, 83, 84, 85, 86, 87, 88, 89, 90, 91, 92, 93, 94, 95, 96, 97, 98, 99, 100, 101, 102, 103, 104, 105, 106, 107, 108, 109, 110, 111, 112, 113, 114, 115, 116, 117, 118, 119, 120, 121, 122, 123, 124, 125, 126, 127, 128, 129, 130, 131, 132, 133], [(12, 7), (15, 2), (16, 3)]) else if f = fn_ref34_Engaged then ([16, 17, 18, 19, 20, 21, 22, 23, 24, 25, 26, 27, 28, 29, 30, 31, 32, 33, 36, 37, 38, 39, 40, 34, 35, 41, 42, 43, 44, 48, 49, 50, 51, 52, 53, 54, 55, 56, 57, 47, 58, 59, 61, 62, 63, 64, 65, 66, 67, 60, 68, 69, 70, 71, 72, 73, 74, 75, 76, 77, 78, 79, 80, 81, 82, 83, 84, 85, 86, 87, 88, 89, 90, 91, 92, 93, 94, 95, 96, 97, 98, 99, 100, 101, 102, 103, 104, 105, 106, 107, 108, 109, 110, 111, 112, 113, 114, 115, 116, 117, 118, 119, 120, 45, 46], [(12, 2), (14, 1), (15, 3)]) else if f = fn_ref34_SameMoves then ([6, 7, 8, 9, 10, 11, 12, 13, 14, 17, 18, 19, 20, 21, 22, 23, 24, 25, 15, 16], []) else if f = fn_ref34_Centers then ([14, 15, 16, 17, 18, 19, 20, 21, 23, 24, 25, 22, 26, 27, 28, 29, 30, 31, 32, 33, 34, 35, 36, 37, 38, 39, 40, 41, 42, 43, 44, 45, 46, 47, 48, 49, 50, 51, 52, 53, 54, 55, 56, 57, 58, 59, 64, 65, 66, 67, 60, 61, 62, 63, 69, 70, 71, 72], []) else if f = fn_ref34_Swept then ([12, 13, 14, 15, 16, 17, 18, 19, 22, 23, 24, 25, 26, 27, 28, 29, 30, 31, 32, 33, 34, 35, 36, 37, 38, 39, 40, 41, 42, 43, 44, 45, 46, 47, 48, 49, 50, 51, 20, 21], []) else if f = fn_trochoid_Path then ([22, 23, 24, 21, 25, 26, 27, 28, 29, 30, 31, 32, 33, 34, 35, 36, 37, 38, 39, 40, 41, 42, 43, 44, 45, 46, 47, 48, 49, 50, 51, 52, 53, 54, 55, 56, 57, 58, 59, 60, 61, 63, 64, 65, 66, 67, 62, 68, 69, 70, 71, 72, 76, 77, 78, 79, 80, 81, 82, 83, 84, 85, 86, 87, 88, 89, 90, 91, 92, 93, 94, 95, 96, 97, 98, 99, 100, 101, 102, 103, 104], [(19, 2)]) else if f = fn_ref34_Same then ([6, 7, 8, 9, 10, 11, 12, 13, 14, 17, 18, 19, 20, 21, 22, 23, 24, 25, 15, 16], []) else if f = fn_ref34_Step then ([10, 11, 12, 13, 14, 15, 16, 17, 18, 19, 20, 21, 22, 23, 24, 25, 26, 27], [(9, 4)]) else if f = fn_ref34_Path then ([25, 26, 27, 24, 28, 29, 14, 30, 31, 32, 33, 34, 35, 36, 37, 38, 39, 40, 41, 42, 43, 44, 45, 46, 47, 48, 49, 50, 51, 52, 53, 54, 55, 56, 58, 59, 60, 61, 57, 62, 63, 64, 65, 66, 68, 69, 70, 67, 71, 72, 73, 74, 75, 76, 79, 80, 81, 82, 83, 84, 85, 86, 87, 88, 89, 90, 91, 92, 93, 94, 95, 96, 97, 98, 99, 100, 101, 102, 103, 104, 105, 106, 77, 78, 107], []) else if f = fn_distance_Segments then ([12, 13, 14, 15, 16, 17, 18, 19, 20, 21, 22, 23, 24, 25, 26, 27, 28, 29, 30, 31, 32, 33, 37, 38, 39, 40, 41, 42, 43, 44, 45, 46], []) else if f = fn_ref01_GCD then ([11, 12, 13, 14, 15, 16, 17, 18, 19, 20, 21, 22, 23, 24, 25, 26, 27, 29, 30, 31, 28, 32, 33, 34, 35, 36, 37, 38, 39, 40, 41, 42, 43, 44, 45, 46, 47, 48, 49, 50, 51, 52, 53], [(7, 1), (8, 2)]) else if f = fn_ref01_limbs then ([4, 5, 6, 7, 8, 9, 10, 11, 12, 13, 14], []) else if f = fn_trochoid_centers then ([13, 14, 15, 16, 17, 18, 19, 20, 21, 22, 23, 24, 25, 26, 27, 28, 29, 30, 31, 32, 33, 34, 35, 36, 37, 38, 39, 40, 41, 42, 46, 47, 48, 49, 50, 51, 52, 53, 54, 55, 56, 57, 58, 59, 60, 61, 62, 63, 43, 44, 45, 64, 65, 66, 67], []) else if f = fn_sort_Search then ([8, 9, 10, 11, 12, 13, 14, 15, 16, 17, 18, 19, 20, 21, 22, 23, 24, 25], [(7, 4)]) else if f = fn_ref01_times then ([9, 10, 11, 12, 13, 14, 15, 16, 17, 18, 21, 22, 23, 24, 27, 28, 29, 30, 31, 32, 33, 34, 35, 36, 37, 38, 39, 40, 41, 42, 43, 44, 45, 46, 47, 48, 49, 50, 51, 52, 53, 54, 55, 56, 57, 25, 26, 58, 59, 60, 61, 62, 63, 64, 65, 19, 20, 66, 67], [(7, 7), (8, 7)]) else if f = fn_ref01_plus then ([8, 9, 10, 11, 12, 13, 14, 15, 16, 17, 18, 19, 20, 21, 22, 25, 26, 27, 28, 29, 30, 31, 32, 33, 34, 35, 36, 37, 38, 39, 40, 41, 42, 43, 44, 45, 46, 47, 23, 24, 48, 49, 50, 51, 52, 53, 54], []) else if f = fn_ref01_compare then ([6, 7, 8, 9, 10, 11, 12, 13, 14, 15, 16, 17, 18, 19, 20, 23, 24, 25, 26, 27, 28, 29, 30, 31, 32, 33, 34, 35, 36, 37, 38, 39, 40, 21, 22], []) else if f = fn_ref01_minus then ([9, 10, 11, 12, 13, 14, 15, 18, 19, 20, 21, 22, 23, 24, 25, 26, 27, 28, 29, 30, 31, 32, 33, 34, 35, 36, 37, 38, 39, 40, 41, 42, 16, 17, 43, 44], [(8, 7)]) else if f = fn_slices_IndexFunc_api_Grid2 then ([6, 9, 10, 11, 12, 13, 14, 15, 16, 17, 18], [(5, 3)]) else if f = fn_ref01_parts then ([21, 22, 23, 24, 25, 26, 27, 28, 29, 30, 31, 32, 33, 34, 35, 36, 37, 38, 39, 40, 41, 42, 43, 44, 45, 46, 47, 48, 49, 50, 51, 52, 53, 54, 55, 56, 57, 58, 59, 60, 61, 62, 63, 64, 65, 66, 67, 68, 69, 70, 71, 72, 73, 74, 75, 76, 79, 80, 81, 82, 83, 84, 85, 86, 87, 88, 89, 90, 91, 92, 93, 94, 95, 96, 97, 98, 99, 100, 101, 102, 103, 104, 105, 106, 107, 108, 109, 110, 111, 112, 113, 114, 115, 116, 117, 118, 119, 120, 121, 122, 123, 124, 125, 126, 127, 128, 129, 130, 131, 132, 133, 134, 135, 136, 137, 138, 77, 78, 139, 140, 141, 142, 143, 144, 145, 146, 149, 150, 151, 152, 153, 154, 155, 156, 157, 158, 159, 160, 161, 162, 163, 164, 165, 166, 167, 168, 147, 148, 169, 170, 171, 172], [(15, 5), (16, 7), (17, 5)]) else if f = fn_ref01_short then ([5, 6, 7, 8, 9, 12, 13, 14, 15, 16, 17, 18, 19, 10, 11, 20], []) else if f = fn_ref01_trim then ([3, 4, 5, 6, 7, 8, 9, 10, 11, 12, 13, 14, 15, 16, 17, 18, 19, 20], []) else if f = fn_slices_IndexFunc_int64 then ([6, 9, 10, 11, 12, 13, 14, 15, 16, 17, 18], [(5, 3)]) else if f = fn_integer_signed then ([6, 7, 8, 9, 10, 11, 12, 13, 14, 15, 16, 17, 18, 19, 20, 21, 22, 23, 24, 25, 26, 27, 28, 29], []) else if f = fn_integer_compare then ([6, 7, 8, 9, 10, 11, 12, 13, 14, 15, 16, 17, 18, 19, 20, 21, 22, 23, 24, 27, 28, 29, 30, 31, 32, 33, 34, 35, 36, 37, 38, 39, 40, 41, 42, 43, 44, 25, 26], []) else if f = fn_integer_times then ([12, 13, 14, 15, 16, 17, 21, 22, 23, 24, 28, 29, 30, 31, 32, 33, 34, 35, 36, 37, 38, 39, 40, 41, 42, 43, 44, 45, 46, 47, 48, 49, 50, 51, 52, 53, 54, 55, 56, 57, 58, 59, 60, 61, 62, 63, 64, 65, 66, 67], [(6, 4), (7, 2), (8, 4), (9, 3), (10, 2), (11, 3)]) else if f = fn_integer_GCD then ([13, 14, 15, 16, 17, 18, 19, 20, 21, 22, 24, 25, 23, 26, 27, 29, 30, 28, 31, 32, 33, 34, 35, 36, 37, 38, 39, 40, 41, 42, 43, 44, 45, 47, 48, 49, 50, 51, 46, 52, 53, 54, 55, 56, 57, 58, 59, 60], [(7, 4), (8, 2), (9, 5), (10, 2), (11, 1), (12, 2)]) else if f = fn_integer_trim then ([3, 4, 5, 6, 7, 8, 9, 10, 11, 12, 13, 14, 15, 16, 17, 18, 19, 20], []) else if f = fn_integer_divide then ([17, 18, 19, 20, 21, 22, 23, 24, 25, 26, 27, 28, 29, 30, 31, 32, 33, 34, 35, 36, 37, 38, 39, 40, 41, 42, 43, 44, 45, 46, 47, 48, 49, 50, 51, 52, 53, 54, 55, 56, 57, 58, 59, 60, 61, 62, 63, 64, 65, 66, 67, 68, 69, 70, 73, 74, 75, 76, 77, 78, 79, 80, 81, 82, 83, 84, 85, 86, 87, 88, 89, 90, 91, 92, 93, 94, 95, 96, 97, 98, 99, 100, 101, 102, 103, 104, 105, 106, 107, 108, 109, 110, 111, 112, 113, 114, 115, 116, 117, 118, 119, 120, 121, 122, 123, 124, 125, 126, 127, 128, 129, 130, 131, 132, 133, 134, 135, 136, 137, 138, 139, 140, 141, 142, 143, 144, 145, 146, 147, 148, 149, 150, 151, 152, 153, 154, 155, 156, 157, 158, 159, 160, 161, 162, 163, 164, 165, 166, 167, 71, 72, 169, 170, 171, 172, 173, 174, 168, 175, 176, 177, 178], [(12, 3), (13, 9), (14, 5)]) else if f = fn_integer_byWord then ([10, 11, 12, 13, 14, 15, 16, 17, 20, 21, 22, 23, 24, 25, 26, 27, 28, 29, 30, 31, 32, 33, 34, 35, 36, 37, 38, 39, 18, 19, 40, 41, 42, 43], [(9, 3)]) else if f = fn_integer_subtract then ([13, 16, 17, 18, 19, 20, 21, 22, 23, 24, 25, 26, 27, 28, 29, 30, 31, 32, 33, 34, 35, 36, 37, 38, 39, 40, 41, 42, 43, 44, 45, 46, 47, 48, 49, 50, 51, 52, 53, 54, 55, 56, 57, 58, 59, 60, 61], [(9, 5), (10, 5), (11, 3), (12, 5)]) else if f = fn_integer_restore then ([7, 10, 11, 12, 13, 14, 15, 16, 17, 18, 19, 20, 21, 22, 23, 24, 25, 26, 27, 28, 29, 30, 31, 32, 33, 34, 35, 36], [(5, 5), (6, 7)]) else if f = fn_integer_plus then ([9, 10, 11, 12, 13, 14, 15, 16, 17, 18, 19, 23, 24, 25, 26, 27, 28, 29, 30, 31, 32, 33, 34, 35, 36, 37, 38, 39, 40, 41, 42, 43, 44, 45, 46, 47, 48, 49, 50, 51, 52], [(7, 3), (8, 9)]) else if f = fn_integer_minus then ([10, 11, 12, 16, 17, 18, 19, 20, 21, 22, 23, 24, 25, 26, 27, 28, 29, 30, 31, 32, 33, 34, 35, 36, 37, 38, 39, 40, 41, 42, 43], [(7, 4), (8, 5), (9, 5)]) else ([], [])
def T0F : Tab := { call := fun _ _ => none, io := ioF, dd := ddF }
/-- The tables of the numbers: so many calls deep. -/
noncomputable def TU (n : Nat) : Tab := T0F.deepU PG FUEL kpF n
theorem TU_is (n : Nat) : TU n = T0F.deepU PG FUEL kpF n := rfl
abbrev TO (T : Tab) : Prop := T.has ioF ddF
theorem TU_io (n : Nat) : TO (TU n) := ⟨Tab.deepU_io T0F FUEL kpF n, Tab.deepU_dd T0F FUEL kpF n⟩
def WF (f : FuncId) : Code → List Nat := deadAt (ddF f)
/-- A round of a loop; a loop's head; a loop. -/
noncomputable def gC (T : Tab) (f j : Nat) : St → Option (Out × St) := evalCode PG T (WF f) FUEL (bodyOf PG f j)
noncomputable def nM (f j : Nat) : St → St := normSt (WF f (bodyOf PG f j))
def lp (T : Tab) (f j : Nat) (S : St) (o : Out) (s : St) : Prop := headLoop (gC T f j) (nM f j) FUEL S = some (o, s)
def xs (r : Option (Out × St × List Ans × List Prop)) : St := match r with
  | some (_, s, _, _) => s
  | none => default
/-- The state behind a round; the state where a body comes to a loop. -/
noncomputable def xr (h : Bool) (f j : Nat) (L : St) (orc : List Ans) : St := xs (xCode PG T0F h ioF (WF f) (bodyOf PG f j) L orc)
noncomputable def xe (h : Bool) (f : Nat) (args sl : List MV) (orc : List Ans) : St := match PG.funcs[f]? with
  | some fn => match fn.body with
    | some c => xs (xCode PG T0F h ioF (WF f) c { sl := sl ++ List.replicate (fn.ntmps - args.length) undefM, en := startEn (ioF f) 0 args ++ List.replicate (fn.ntmps - args.length) none, ck := 1 } orc)
    | none => default
  | none => default
theorem rd_ok {T : Tab} {f j : Nat} {h : Bool} {L N : St} {orc : List Ans} {b : List Prop} (hio : TO T) (e : xCode PG T h ioF (WF f) (bodyOf PG f j) L orc = some (.normal, xr h f j L orc, [], b)) (ho : Owed b) (hn : nM f j (xr h f j L orc) = N) :
    ∃ s_, gC T f j L = some (.normal, s_) ∧ nM f j s_ = N := ⟨_, xCode_io hio e ho, hn⟩
theorem ex_ok {T : Tab} {f j : Nat} {h : Bool} {L : St} {o : Out} {orc : List Ans} {b : List Prop} (hio : TO T) (e : xCode PG T h ioF (WF f) (bodyOf PG f j) L orc = some (o, xr h f j L orc, [], b)) (ho : Owed b) : gC T f j L = some (o, xr h f j L orc) := xCode_io hio e ho
theorem lpI {T : Tab} {f j : Nat} {I L : St} {o : Out} {s : St} (hi : nM f j I = L) (h : lp T f j L o s) : lp T f j (nM f j I) o s := by rw [hi]; exact h
/-- Entries whose cells are taken out. -/
def clrEn : List (Option Ent) → List Nat → List (Option Ent)
  | en, [] => en
  | en, n :: r => clrEn (fillAt en n []) r
def clr (st : St) (ns : List Nat) : St := { st with en := clrEn st.en ns }
theorem nm_fill {w : List Nat} {S n0 N : St} {q0 : Nat} {c0 : List MV} (h1 : (S, emptyAt (clr S [q0]).en [(q0, c0)]) = (fillSt (clr S [q0]) [(q0, c0)], true)) (h2 : normSt w (clr S [q0]) = n0) (h3 : fillSt n0 [(q0, c0)] = N) (h : NoNames c0) : normSt w S = N :=
  norm_fill h1 h2 h3 (by intro x hx; simp only [List.mem_singleton] at hx; subst hx; exact h)
theorem nm_fill2 {w : List Nat} {S n0 N : St} {q0 q1 : Nat} {c0 c1 : List MV} (h1 : (S, emptyAt (clr S [q0, q1]).en [(q0, c0), (q1, c1)]) = (fillSt (clr S [q0, q1]) [(q0, c0), (q1, c1)], true)) (h2 : normSt w (clr S [q0, q1]) = n0) (h3 : fillSt n0 [(q0, c0), (q1, c1)] = N) (g0 : NoNames c0) (g1 : NoNames c1) : normSt w S = N :=
  norm_fill h1 h2 h3 (by intro x hx; simp only [List.mem_cons, List.not_mem_nil, or_false] at hx; rcases hx with rfl | rfl <;> assumption)
theorem rd_fill {T : Tab} {f j : Nat} {h : Bool} {L n0 N : St} {orc : List Ans} {b : List Prop} {q0 : Nat} {c0 : List MV} (hio : TO T) (e : xCode PG T h ioF (WF f) (bodyOf PG f j) L orc = some (.normal, xr h f j L orc, [], b)) (ho : Owed b)
    (h1 : (xr h f j L orc, emptyAt (clr (xr h f j L orc) [q0]).en [(q0, c0)]) = (fillSt (clr (xr h f j L orc) [q0]) [(q0, c0)], true)) (h2 : normSt (WF f (bodyOf PG f j)) (clr (xr h f j L orc) [q0]) = n0) (h3 : fillSt n0 [(q0, c0)] = N) (hn : NoNames c0) :
    ∃ s_, gC T f j L = some (.normal, s_) ∧ nM f j s_ = N := ⟨_, xCode_io hio e ho, nm_fill h1 h2 h3 hn⟩
theorem rd_fill2 {T : Tab} {f j : Nat} {h : Bool} {L n0 N : St} {orc : List Ans} {b : List Prop} {q0 q1 : Nat} {c0 c1 : List MV} (hio : TO T) (e : xCode PG T h ioF (WF f) (bodyOf PG f j) L orc = some (.normal, xr h f j L orc, [], b)) (ho : Owed b)
    (h1 : (xr h f j L orc, emptyAt (clr (xr h f j L orc) [q0, q1]).en [(q0, c0), (q1, c1)]) = (fillSt (clr (xr h f j L orc) [q0, q1]) [(q0, c0), (q1, c1)], true)) (h2 : normSt (WF f (bodyOf PG f j)) (clr (xr h f j L orc) [q0, q1]) = n0) (h3 : fillSt n0 [(q0, c0), (q1, c1)] = N) (g0 : NoNames c0) (g1 : NoNames c1) :
    ∃ s_, gC T f j L = some (.normal, s_) ∧ nM f j s_ = N := ⟨_, xCode_io hio e ho, nm_fill2 h1 h2 h3 g0 g1⟩
theorem rep_nn {v : Value} : ∀ n : Nat, NoNames (repCells [.sc v] n)
  | 0 => NoNames.nil
  | n + 1 => (rep_nn n).cons_sc
theorem uncapsAt_nil : ∀ (ms : List MV) (i : Nat), uncapsAt [] i ms = uncaps ms
  | [], _ => rfl
  | m :: ms, i => by rw [uncapsAt, uncaps, uncapsAt_nil ms]; rfl
theorem TU_call {m : Nat} {f : FuncId} {args args' : List MV} {r r' : MV} (hm : 0 < m) (hio : ioF f = []) (hk : kpF f = false) (ha : uncaps args = args') (h : evalBody PG (TU (m - 1)) FUEL (ioF f) f args' = some (r, [])) (hr : uncap r = r') : (TU m).call f args = some (r', []) := by
  obtain ⟨n, rfl⟩ : ∃ n, m = n + 1 := ⟨m - 1, by omega⟩
  rw [Nat.add_sub_cancel] at h
  rw [TU_is] at h ⊢
  have ha' : uncapsAt (ioF f) 0 args = args' := by rw [hio, uncapsAt_nil]; exact ha
  exact deepU_call (T := T0F) ha' rfl h (by rw [hk]; exact hr)
theorem TU_callio {m : Nat} {f : FuncId} {a : MV} {args args' : List MV} {r r' : MV} {o : List (List MV)} (hm : 0 < m) (hio : ioF f = [0]) (hk : kpF f = false) (ha : uncapsAt [0] 1 args = args') (h : evalBody PG (TU (m - 1)) FUEL (ioF f) f (a :: args') = some (r, o)) (hr : uncap r = r') : (TU m).call f (a :: args) = some (r', o) := by
  obtain ⟨n, rfl⟩ : ∃ n, m = n + 1 := ⟨m - 1, by omega⟩
  rw [Nat.add_sub_cancel] at h
  rw [TU_is] at h ⊢
  have ha' : uncapsAt (ioF f) 0 (a :: args) = a :: args' := by rw [hio]; simp only [uncapsAt, ha]; rfl
  exact deepU_call (T := T0F) ha' rfl h (by rw [hk]; exact hr)
theorem TU_callk {m : Nat} {f : FuncId} {args args' : List MV} {r : MV} (hm : 0 < m) (hio : ioF f = []) (hk : kpF f = true) (ha : uncaps args = args') (h : evalBody PG (TU (m - 1)) FUEL (ioF f) f args' = some (r, [])) : (TU m).call f args = some (r, []) := by
  obtain ⟨n, rfl⟩ : ∃ n, m = n + 1 := ⟨m - 1, by omega⟩
  rw [Nat.add_sub_cancel] at h
  rw [TU_is] at h ⊢
  have ha' : uncapsAt (ioF f) 0 args = args' := by rw [hio, uncapsAt_nil]; exact ha
  exact deepU_call (T := T0F) ha' rfl h (by rw [hk]; rfl)
end Go.Proofs.YtkeelkeoijemiaaGreat.Ev

namespace Go.Proofs.YtkeelkeoijemiaaGreat.Ev
open Go

theorem ow0 : Owed [] := trivial
theorem ow1 {p : Prop} (h : p) : Owed [p] := h
theorem owc {p q : Prop} {r : List Prop} (h : p) (hr : Owed (q :: r)) : Owed (p :: q :: r) := ⟨h, hr⟩
abbrev iN (x : Int) : MV := .sc (.int .i64 x)
abbrev uN (x : Int) : MV := .sc (.int .u32 x)
abbrev wN (x : Int) : MV := .sc (.int .u64 x)
abbrev bN (b : Bool) : MV := .sc (.bool b)
abbrev rp {α : Type} (n : Nat) (x : α) : List α := List.replicate n x
def BB : Nat := 1000000000
/-- A digit of a number. -/
def dgt (v i : Nat) : Nat := v / BB ^ i % BB
/-- The lowest digits of a number, as cells. -/
def dg : Nat → Nat → List MV
  | 0, _ => []
  | n + 1, v => dg n v ++ [.sc (.int .u32 (dgt v n : Nat))]

theorem BB_pos : 0 < BB := by decide
theorem BBp (n : Nat) : 0 < BB ^ n := Nat.pow_pos BB_pos
theorem dgt_lt (v i : Nat) : dgt v i < BB := Nat.mod_lt _ BB_pos
theorem dg_len : ∀ n v, (dg n v).length = n
  | 0, _ => rfl
  | n + 1, v => by simp [dg, dg_len n v]
theorem dgt_split (v n : Nat) : v % BB ^ (n + 1) = v % BB ^ n + BB ^ n * dgt v n := by rw [Nat.mod_pow_succ]; rfl
theorem dgt_mod {v w n : Nat} (h : v % BB ^ n = w % BB ^ n) {i : Nat} (hi : i < n) : dgt v i = dgt w i := by
  have e : ∀ x : Nat, dgt x i = x % BB ^ n / BB ^ i % BB := by
    intro x
    unfold dgt
    obtain ⟨k, rfl⟩ : ∃ k, n = i + (k + 1) := ⟨n - i - 1, by omega⟩
    rw [Nat.pow_add, Nat.mod_mul_right_div_self, Nat.pow_succ', Nat.mod_mul_right_mod]
  rw [e, e, h]
theorem dg_congr : ∀ {n v w : Nat}, v % BB ^ n = w % BB ^ n → dg n v = dg n w
  | 0, _, _, _ => rfl
  | n + 1, v, w, h => by
    have h1 : v % BB ^ n = w % BB ^ n := by
      have := congrArg (· % BB ^ n) h
      simpa [Nat.pow_succ, Nat.mod_mul_right_mod] using this
    rw [dg, dg, dg_congr h1, dgt_mod h (Nat.lt_succ_self n)]
theorem dg_mod (n v : Nat) : dg n (v % BB ^ n) = dg n v := dg_congr (Nat.mod_mod _ _)
theorem dg_leaves : ∀ n v, Leaves (dg n v)
  | 0, _ => Leaves.nil
  | n + 1, v => (dg_leaves n v).append (Leaves.cons rfl Leaves.nil)
theorem uncaps_append : ∀ a b : List MV, uncaps (a ++ b) = uncaps a ++ uncaps b
  | [], _ => rfl
  | m :: a, b => by simp [uncaps, uncaps_append a b]
@[simp] theorem uncaps_dg : ∀ n v, uncaps (dg n v) = dg n v
  | 0, _ => rfl
  | n + 1, v => by rw [dg, uncaps_append, uncaps_dg n v]; rfl
theorem dg_get : ∀ {n v i : Nat}, i < n → (dg n v)[i]? = some (.sc (.int .u32 (dgt v i : Nat)))
  | n + 1, v, i, h => by
    rw [dg]
    by_cases hi : i < n
    · rw [List.getElem?_append_left (by rw [dg_len]; exact hi), dg_get hi]
    · obtain rfl : i = n := by omega
      rw [List.getElem?_append_right (by rw [dg_len]; omega)]
      simp [dg_len]
theorem dg_at {n v i : Nat} (h : i < n) : takeAs false 1 ((dg n v).drop (i * 1)) = some (.sc (.int .u32 (dgt v i : Nat))) := by
  have := dg_get (v := v) h
  rw [Nat.mul_one]
  have h2 : i < (dg n v).length := by rw [dg_len]; exact h
  rw [List.drop_eq_getElem_cons h2]
  rw [List.getElem?_eq_getElem h2] at this
  simp only [takeAs]
  exact this
theorem dg_at' {n v i : Nat} (h : i < n) : takeAs false 1 ((dg n v).drop i) = some (.sc (.int .u32 (dgt v i : Nat))) := by
  have := dg_at (v := v) h
  rwa [Nat.mul_one] at this
theorem dg_take : ∀ {n v k : Nat}, k ≤ n → (dg n v).take k = dg k v
  | 0, _, k, h => by obtain rfl : k = 0 := by omega
                     rfl
  | n + 1, v, k, h => by
    by_cases hk : k ≤ n
    · rw [dg, List.take_append_of_le_length (by rw [dg_len]; exact hk), dg_take hk]
    · obtain rfl : k = n + 1 := by omega
      rw [List.take_of_length_le (by rw [dg_len]; omega)]
theorem dgt_shift (v k i : Nat) : dgt (v / BB ^ k) i = dgt v (k + i) := by unfold dgt; rw [Nat.div_div_eq_div_mul, Nat.pow_add]
theorem dg_drop {n v k : Nat} (h : k ≤ n) : (dg n v).drop k = dg (n - k) (v / BB ^ k) := by
  apply List.ext_getElem?
  intro i
  rw [List.getElem?_drop]
  by_cases hi : k + i < n
  · rw [dg_get hi, dg_get (by omega), dgt_shift]
  · rw [List.getElem?_eq_none (by rw [dg_len]; omega), List.getElem?_eq_none (by rw [dg_len]; omega)]
theorem dg_ext {cs : List MV} {n v : Nat} (hl : cs.length = n) (h : ∀ i, i < n → cs[i]? = some (.sc (.int .u32 (dgt v i : Nat)))) : cs = dg n v := by
  apply List.ext_getElem?
  intro i
  by_cases hi : i < n
  · rw [h i hi, dg_get hi]
  · rw [List.getElem?_eq_none (by omega), List.getElem?_eq_none (by rw [dg_len]; omega)]
theorem dg_ne {n v : Nat} (h : 0 < n) : dg n v ≠ [] := by intro e; have := dg_len n v; rw [e] at this; simp at this; omega

/-- Low digits, then high ones. -/
theorem dg_append (n m v w : Nat) (hv : v < BB ^ n) : dg n v ++ dg m w = dg (n + m) (v + BB ^ n * w) := by
  refine dg_ext (by simp [dg_len]) fun i hi => ?_
  by_cases h : i < n
  · rw [List.getElem?_append_left (by rw [dg_len]; exact h), dg_get h]
    congr 4
    exact dgt_mod (n := n) (by rw [Nat.add_mul_mod_self_left]) h
  · rw [List.getElem?_append_right (by rw [dg_len]; omega), dg_len, dg_get (by omega)]
    congr 4
    rw [← Nat.add_sub_of_le (show n ≤ i by omega), ← dgt_shift, Nat.add_mul_div_left _ _ (BBp n), Nat.div_eq_of_lt hv, Nat.zero_add]
    congr 1
    omega
theorem dg_one (x : Nat) (h : x < BB) : [(MV.sc (.int .u32 (x : Nat)) : MV)] = dg 1 x := by
  simp [dg, dgt, Nat.mod_eq_of_lt h]
/-- Digits written over. -/
theorem dg_put {n v k m w : Nat} (h : k + m ≤ n) (hv : v < BB ^ n) (hw : w < BB ^ m) : putCells (dg n v) k (dg m w) = dg n (v % BB ^ k + BB ^ k * (w + BB ^ m * (v / BB ^ (k + m)))) := by
  unfold putCells
  rw [dg_len, dg_take (by omega), dg_drop h]
  have e : v / BB ^ (k + m) < BB ^ (n - (k + m)) := by
    rw [Nat.div_lt_iff_lt_mul (BBp _), ← Nat.pow_add, Nat.sub_add_cancel h]; exact hv
  rw [List.append_assoc, dg_append _ _ _ _ hw, ← dg_mod k v, dg_append _ _ _ _ (Nat.mod_lt _ (BBp k))]
  congr 1
  omega
theorem dg_put1 {n v k x : Nat} (h : k < n) (hv : v < BB ^ n) (hx : x < BB) : putCells (dg n v) k [.sc (.int .u32 (x : Nat))] = dg n (v % BB ^ k + BB ^ k * (x + BB * (v / BB ^ (k + 1)))) := by
  have := dg_put (n := n) (v := v) (k := k) (m := 1) (w := x) (by omega) hv (by simpa using hx)
  rw [← dg_one x hx] at this
  rw [this, Nat.pow_one]

/-- How many limbs a number has. -/
def nlF : Nat → Nat → Nat
  | 0, _ => 0
  | f + 1, v => if v = 0 then 0 else nlF f (v / BB) + 1
def nl (v : Nat) : Nat := nlF (v.log2 + 1) v
theorem nlF_spec : ∀ (f v : Nat), v < 2 ^ f → v < BB ^ nlF f v ∧ ∀ k, v < BB ^ k → nlF f v ≤ k
  | 0, v, h => by
    have : v = 0 := by simpa using h
    subst this; simp [nlF]
  | f + 1, v, h => by
    unfold nlF
    split
    · rename_i h0; subst h0; simp
    · rename_i h0
      have h1 : v / BB < 2 ^ f := by
        rw [Nat.div_lt_iff_lt_mul BB_pos]
        have : 2 ^ (f + 1) ≤ 2 ^ f * BB := by rw [Nat.pow_succ]; exact Nat.mul_le_mul_left _ (by decide)
        omega
      obtain ⟨h2, h3⟩ := nlF_spec f (v / BB) h1
      refine ⟨?_, fun k hk => ?_⟩
      · rw [Nat.pow_succ]
        exact (Nat.div_lt_iff_lt_mul BB_pos).1 h2
      · cases k with
        | zero => simp at hk; omega
        | succ k =>
          have := h3 k ((Nat.div_lt_iff_lt_mul BB_pos).2 (by rw [← Nat.pow_succ]; exact hk))
          omega
theorem nl_lt (v : Nat) : v < BB ^ nl v := (nlF_spec _ v Nat.lt_log2_self).1
theorem nl_le {v k : Nat} (h : v < BB ^ k) : nl v ≤ k := (nlF_spec _ v Nat.lt_log2_self).2 k h
theorem nl_zero : nl 0 = 0 := by decide
theorem nl_pos {v : Nat} (h : 0 < v) : 0 < nl v := by
  by_cases h0 : nl v = 0
  · have := nl_lt v; rw [h0] at this; simp at this; omega
  · omega
theorem nl_ge {v n : Nat} (h : BB ^ n ≤ v) : n < nl v := by
  apply Nat.lt_of_not_le
  intro h1
  have h2 := nl_lt v
  have h3 : BB ^ nl v ≤ BB ^ n := Nat.pow_le_pow_right BB_pos h1
  omega
theorem nl_low {v : Nat} (h : 0 < v) : BB ^ (nl v - 1) ≤ v := by
  apply Nat.le_of_not_lt
  intro h1
  have := nl_le h1
  have := nl_pos h
  omega
theorem nl_eq {v n : Nat} (h1 : v < BB ^ (n + 1)) (h2 : BB ^ n ≤ v) : nl v = n + 1 := by
  have := nl_le h1
  have := nl_ge h2
  omega
theorem nl_mono {v w : Nat} (h : v ≤ w) : nl v ≤ nl w := nl_le (Nat.lt_of_le_of_lt h (nl_lt w))
/-- The highest limb is not 0, those above are. -/
theorem dgt_top {v : Nat} (h : 0 < v) : dgt v (nl v - 1) ≠ 0 := by
  unfold dgt
  have h1 := nl_low h
  have h2 : v / BB ^ (nl v - 1) < BB := by
    rw [Nat.div_lt_iff_lt_mul (BBp _), ← Nat.pow_succ']
    have := nl_pos h
    rw [show (nl v - 1).succ = nl v by omega]; exact nl_lt v
  rw [Nat.mod_eq_of_lt h2]
  have := Nat.div_pos h1 (BBp (nl v - 1))
  omega
theorem dgt_high {v n i : Nat} (h : v < BB ^ n) (hi : n ≤ i) : dgt v i = 0 := by
  unfold dgt
  rw [Nat.div_eq_of_lt (Nat.lt_of_lt_of_le h (Nat.pow_le_pow_right BB_pos hi)), Nat.zero_mod]
theorem dix {n v i : Nat} (h : i < n) : (0 : Int) ≤ ((i : Nat) : Int) ∧ ((i : Nat) : Int) < ((n : Nat) : Int) ∧ (dg n v : List MV) ≠ [] := ⟨by omega, by omega, dg_ne (by omega)⟩
theorem dgi {n v i : Nat} (h : i < n) : takeAs false 1 ((dg n v).drop (((i : Nat) : Int).toNat * 1)) = some (uN ((dgt v ((i : Nat) : Int).toNat : Nat) : Int)) := dg_at h
theorem dg_nn (n v : Nat) : NoNames (dg n v) := (dg_leaves n v).noNames
theorem dg_pl {n v : Nat} (h : n < 900000) : Plain (dg n v) := (dg_leaves n v).plain (by rw [dg_len]; omega)
theorem rep_dg (n : Nat) : repCells [uN 0] n = dg n 0 := by
  refine dg_ext ?_ fun i hi => ?_
  · induction n with
    | zero => rfl
    | succ n ih => simp [repCells, ih]
  · have : ∀ n i : Nat, i < n → (repCells [uN 0] n)[i]? = some (uN 0) := by
      intro n
      induction n with
      | zero => intro i h; omega
      | succ n ih =>
        intro i h
        cases i with
        | zero => rfl
        | succ i => simpa [repCells] using ih i (by omega)
    rw [this n i hi]
    simp [dgt]
theorem put_next {n d i : Nat} (h : i < n) : putCells (dg n (d % BB ^ i)) i [uN ((dgt d i : Nat) : Int)] = dg n (d % BB ^ (i + 1)) := by
  have hlt : d % BB ^ i < BB ^ n := Nat.lt_of_lt_of_le (Nat.mod_lt _ (BBp i)) (Nat.pow_le_pow_right BB_pos (by omega))
  rw [dg_put1 h hlt (dgt_lt _ _), Nat.mod_mod, Nat.div_eq_of_lt (Nat.lt_of_lt_of_le (Nat.mod_lt _ (BBp i)) (Nat.pow_le_pow_right BB_pos (by omega))), Nat.mul_zero, Nat.add_zero, dgt_split]
theorem pos0 (i : Nat) : 0 + (((i : Nat) : Int).toNat * 1) = i := by rw [Int.toNat_natCast]; omega
/-- Sums, limb by limb. -/
def crr (v w i : Nat) : Nat := (v % BB ^ i + w % BB ^ i) / BB ^ i
theorem crr_le (v w i : Nat) : crr v w i ≤ 1 := by
  unfold crr
  have h1 := Nat.mod_lt v (BBp i)
  have h2 := Nat.mod_lt w (BBp i)
  have : (v % BB ^ i + w % BB ^ i) / BB ^ i < 2 := (Nat.div_lt_iff_lt_mul (BBp i)).2 (by omega)
  omega
theorem crr_zero (v w : Nat) : crr v w 0 = 0 := by simp [crr, Nat.mod_one]
theorem add_mod_split (v w i : Nat) : v % BB ^ i + w % BB ^ i = (v + w) % BB ^ i + BB ^ i * crr v w i := by
  unfold crr
  rw [Nat.add_mod v w]
  exact (Nat.mod_add_div _ _).symm
theorem crr_step (v w i : Nat) : dgt v i + dgt w i + crr v w i = dgt (v + w) i + BB * crr v w (i + 1) := by
  have h1 := add_mod_split v w i
  have h2 := add_mod_split v w (i + 1)
  rw [dgt_split v, dgt_split w, dgt_split (v + w)] at h2
  have hp := BBp i
  rw [Nat.pow_succ] at h2
  apply Nat.eq_of_mul_eq_mul_left hp
  rw [Nat.mul_add, Nat.mul_add, Nat.mul_add, ← Nat.mul_assoc]
  omega
theorem crr_top {v w n : Nat} (hv : v < BB ^ n) (hw : w < BB ^ n) : crr v w n = dgt (v + w) n := by
  unfold crr dgt
  rw [Nat.mod_eq_of_lt hv, Nat.mod_eq_of_lt hw, Nat.mod_eq_of_lt]
  exact (Nat.div_lt_iff_lt_mul (BBp n)).2 (by have := BB_pos; have := Nat.mul_le_mul_right (BB ^ n) (show 2 ≤ BB by decide); omega)
/-- A loop by what holds at its head, up to the head of the last round. -/
theorem loop_to {G : St → Option (Out × St)} {nm : St → St} (Inv : Nat → St → Prop) (m n : Nat) (S : St)
    (hs : ∀ k s, k < m → Inv k s → ∃ s', G s = some (.normal, s') ∧ Inv (k + 1) (nm s')) (h0 : Inv 0 S) (hn : m < n) :
    ∃ s, Inv m s ∧ ∀ o s', G s = some (o, s') → o ≠ .normal → headLoop G nm n S = some (o, s') := by
  induction m generalizing n S Inv with
  | zero =>
    refine ⟨S, h0, fun o s' h ho => ?_⟩
    cases n with
    | zero => omega
    | succ n =>
      simp only [headLoop, h]
      cases o with
      | normal => exact absurd rfl ho
      | exit i => rfl
      | ret => rfl
  | succ m ih =>
    cases n with
    | zero => omega
    | succ n =>
      obtain ⟨s1, h1, h2⟩ := hs 0 S (by omega) h0
      obtain ⟨s, h3, h4⟩ := ih (fun k => Inv (k + 1)) n (nm s1) (fun k s hk hi => hs (k + 1) s (by omega) hi) h2 (by omega)
      refine ⟨s, h3, fun o s' h ho => ?_⟩
      simp only [headLoop, h1]
      exact h4 o s' h ho
theorem i64s {x : Int} (h : -9223372036854775808 ≤ x ∧ x ≤ 9223372036854775807) : IntKind.i64.wrap x = x := IntWalk.i64_in x h
theorem u32s {x : Int} (h : 0 ≤ x ∧ x ≤ 4294967295) : IntKind.u32.wrap x = x := IntWalk.u32_in x h
theorem u64s {x : Int} (h : 0 ≤ x ∧ x ≤ 18446744073709551615) : IntKind.u64.wrap x = x := IntWalk.u64_in x h
end Go.Proofs.YtkeelkeoijemiaaGreat.Ev

