/- A function's body by its evaluation: the contract of its call. The evaluation told path by path: what calls and loops answer, what is read and which way tests go is given, and told as what is owed. -/
import Derived.Test.YtkeelkeoijemiaaGreatEvN
set_option linter.unusedVariables false
set_option linter.unusedSimpArgs false
namespace Go.Proofs.YtkeelkeoijemiaaGreat.Ev
open Go Go.RowKit

variable {P : Program} {T : Tab} {G : Gh}

theorem ArgsR.places {w : World} {ok : Nat → Prop} {io : List Nat} : ∀ {ms : List MV} {i : Nat} {vs : List Value} {ios : List IOw}, ArgsR w ok io i ms vs ios →
    ios.map (·.p) = (List.range' i ms.length).filter (fun i => io.contains i) ∧ (∀ y ∈ ios, i ≤ y.p) ∧ ios.Pairwise (fun x y => x.p < y.p)
  | [], i, vs, ios, ⟨_, h⟩ => by subst h; simp
  | m :: ms, i, vs, ios, ⟨v, vt, _, h⟩ => by
    split at h
    · rename_i hio
      obtain ⟨y, ys, rfl, hy, hs⟩ := h
      obtain ⟨e1, e2, e3⟩ := ArgsR.places hs
      refine ⟨?_, fun z hz => ?_, List.pairwise_cons.2 ⟨fun z hz => ?_, e3⟩⟩
      · rw [List.length_cons, List.range'_succ, List.filter_cons, if_pos hio, List.map_cons, e1, hy.1]
      · rcases List.mem_cons.1 hz with rfl | hz
        · rw [hy.1]; exact Nat.le_refl _
        · have := e2 z hz; omega
      · have := e2 z hz; rw [hy.1]; omega
    · rename_i hio
      obtain ⟨_, hs⟩ := h
      obtain ⟨e1, e2, e3⟩ := ArgsR.places hs
      refine ⟨?_, fun z hz => by have := e2 z hz; omega, e3⟩
      rw [List.length_cons, List.range'_succ, List.filter_cons, if_neg hio, e1]

theorem ArgsR.length {w : World} {ok : Nat → Prop} {io : List Nat} : ∀ {ms : List MV} {i : Nat} {vs : List Value} {ios : List IOw}, ArgsR w ok io i ms vs ios → vs.length = ms.length
  | [], _, _, _, ⟨h, _⟩ => by subst h; rfl
  | m :: ms, i, _, _, ⟨v, vt, e, h⟩ => by
    subst e
    split at h
    · obtain ⟨_, _, _, _, hs⟩ := h; simp [ArgsR.length hs]
    · simp [ArgsR.length h.2]

def R0 (ios : List IOw) : Nat → Nat → Option (Nat × Nat) := fun n g => if g = 0 then (ios.find? fun y => y.p == n).map fun y => (y.B, y.d) else none
theorem R0_find : ∀ {ios : List IOw}, ios.Pairwise (fun x y => x.p < y.p) → ∀ y ∈ ios, ios.find? (fun z => z.p == y.p) = some y
  | [], _, y, h => by cases h
  | x :: l, hp, y, hy => by
    obtain ⟨h1, h2⟩ := List.pairwise_cons.1 hp
    rw [List.find?_cons]
    rcases List.mem_cons.1 hy with rfl | hy
    · simp
    · have := h1 y hy
      have : (x.p == y.p) = false := by simp; omega
      rw [this]; exact R0_find h2 y hy
theorem R0_at {ios : List IOw} (hp : ios.Pairwise (fun x y => x.p < y.p)) {y : IOw} (hy : y ∈ ios) : R0 ios y.p 0 = some (y.B, y.d) := by simp [R0, R0_find hp y hy]

theorem startSl_sound {w : World} {ok : Nat → Prop} {io : List Nat} {params : List TypeId} {R : Nat → Nat → Option (Nat × Nat)} : ∀ (ms : List MV) (i : Nat) (vs : List Value) (ios : List IOw) (sl : List MV), ArgsR w ok io i ms vs ios → (∀ y ∈ ios, R y.p 0 = some (y.B, y.d)) →
    startSl P io params i ms = some sl → VRs w ok R sl vs
  | [], i, vs, ios, sl, ⟨h, _⟩, _, e => by simp [startSl] at e; subst e h; exact VRs.nil
  | m :: ms, i, vs, ios, sl, ⟨v, vt, hv, h⟩, hR, e => by
    subst hv
    simp only [startSl] at e
    split at e
    · cases e
    · rename_i l hl
      split at e
      · rename_i hio
        rw [if_pos hio] at h
        obtain ⟨y, ys, rfl, ⟨hyp, len, c, cs, el, cells, us, hm, hx, hlc, _⟩, hs⟩ := h
        have hr := startSl_sound ms (i + 1) vt ys l hs (fun z hz => hR z (by simp [hz])) hl
        split at e
        · rename_i len' cap' cs' el' hpe
          split at e
          · rename_i sz hsz
            split at e
            · cases e
              cases hm
              exact VRs.cons ⟨y.B, y.d, c, by have := hR y (by simp); rw [hyp] at this; exact this, hx, hlc, fun k hk => (by cases hk), fun hg => absurd rfl hg⟩ hr
            · cases e
          · cases e
        · cases e
      · rename_i hio
        rw [if_neg hio] at h
        cases e
        exact VRs.cons (VR.mono (R := noR) (Ext.refl _ _) (fun _ h => h) (fun _ _ _ h => by cases h) _ _ h.1) (startSl_sound ms (i + 1) vt ios l h.2 hR hl)

theorem startEn_sound {w : World} {ok : Nat → Prop} {io : List Nat} : ∀ (ms : List MV) (i : Nat) (vs : List Value) (ios : List IOw), ArgsR w ok io i ms vs ios → ∀ k e, (startEn io i ms)[k]? = some (some e) →
    ∃ y ∈ ios, y.p = i + k ∧ e.gen = 0 ∧ e.frozen = false ∧ y.n = e.cells.length ∧ ∃ el cells us, w.heap[y.B]? = some (.cells cells el (0, 0)) ∧ VRs w ok noR e.cells us ∧ (∀ j, j < us.length → cells[y.d + j]? = us[j]?) ∧ (us = [] ∨ y.d + us.length ≤ cells.size)
  | [], i, vs, ios, _, k, e, he => by simp [startEn] at he
  | m :: ms, i, vs, ios, ⟨v, vt, hv, h⟩, k, e, he => by
    simp only [startEn] at he
    cases k with
    | zero =>
      simp only [List.getElem?_cons_zero, Option.some.injEq] at he
      split at he
      · rename_i hio
        rw [if_pos hio] at h
        obtain ⟨y, ys, rfl, ⟨hyp, len, c, cs, el, cells, us, hm, hx, hlc, hn, hB, hus, hc, hsz⟩, hs⟩ := h
        subst hm
        simp only [Option.some.injEq] at he
        subst he
        exact ⟨y, by simp, by omega, rfl, rfl, hn, el, cells, us, hB, hus, hc, hsz⟩
      · cases he
    | succ k =>
      simp only [List.getElem?_cons_succ] at he
      split at h
      · obtain ⟨y, ys, rfl, _, hs⟩ := h
        obtain ⟨z, hz, e1, e2⟩ := startEn_sound ms (i + 1) vt ys hs k e he
        exact ⟨z, by simp [hz], by omega, e2⟩
      · obtain ⟨z, hz, e1, e2⟩ := startEn_sound ms (i + 1) vt ios h.2 k e he
        exact ⟨z, hz, by omega, e2⟩
theorem startEn_len (io : List Nat) : ∀ (i : Nat) (ms : List MV), (startEn io i ms).length = ms.length
  | _, [] => rfl
  | i, m :: ms => by simp [startEn, startEn_len io (i + 1) ms]

/-- The state at a function's begin. -/
theorem start_SR {w : World} {ok : Nat → Prop} {io : List Nat} {args : List MV} {vs : List Value} {ios : List IOw} {params : List TypeId} {sl : List MV} (hG : Gh.ok ⟨w, ok, ios⟩) (hok : ∀ b, ok b → b < w.heap.size) (ha : ArgsR w ok io 0 args vs ios)
    (hs : startSl P io params 0 args = some sl) (k : Nat) : SR ⟨w, ok, ios⟩ { sl := sl ++ List.replicate k undefM, en := startEn io 0 args ++ List.replicate k none, ck := 1 } { tmps := ⟨vs⟩ ++ Array.replicate k undef, defers := [] } w ok (R0 ios) (fun g => g < 1) := by
  obtain ⟨hp1, _, hp3⟩ := ArgsR.places ha
  have hR : ∀ y ∈ ios, R0 ios y.p 0 = some (y.B, y.d) := fun y hy => R0_at hp3 hy
  have ent : ∀ n e, ({ sl := sl ++ List.replicate k undefM, en := startEn io 0 args ++ List.replicate k none, ck := 1 } : St).ent n = some e → (startEn io 0 args)[n]? = some (some e) := by
    intro n e he
    unfold St.ent at he
    simp only [List.getD_eq_getElem?_getD, List.getElem?_append] at he
    split at he
    · rename_i hl
      rw [List.getElem?_eq_getElem hl] at he ⊢
      simpa using he
    · rw [List.getElem?_replicate] at he
      split at he <;> simp at he
  refine { os := rfl, tape := rfl, output := rfl, size := Nat.le_refl _, low := fun _ _ _ => rfl, ioK := ?_, okLt := hok, okLow := fun b hb => .inl hb, okUp := fun b hb => hb, ents := ?_, apart := ?_, slots := ?_, defers := rfl, fresh := ?_ }
  · intro x hx
    have hlt := hG.lt x hx
    -- a row of cells: by the argument
    have : ∀ {ms : List MV} {i : Nat} {vs : List Value} {ios : List IOw}, ArgsR w ok io i ms vs ios → ∀ y ∈ ios, ∃ c el, w.heap[y.B]? = some (.cells c el (0, 0)) := by
      intro ms
      induction ms with
      | nil => intro i vs ios ⟨_, h⟩ y hy; subst h; cases hy
      | cons m ms ih =>
        intro i vs ios ⟨v, vt, _, h⟩ y hy
        split at h
        · obtain ⟨z, zs, rfl, ⟨_, _, _, _, el, cells, _, _, _, _, _, hB, _⟩, hs⟩ := h
          rcases List.mem_cons.1 hy with rfl | hy
          · exact ⟨cells, el, hB⟩
          · exact ih hs y hy
        · exact ih h.2 y hy
    obtain ⟨c, el, hB⟩ := this ha x hx
    exact ⟨c, c, el, (0, 0), hB, hB, rfl, fun _ _ => rfl⟩
  · intro n e he
    obtain ⟨y, hy, hyp, hg, hf, hn, el, cells, us, hB, hus, hc, hsz⟩ := startEn_sound args 0 vs ios ha n e (ent n e he)
    have hpn : y.p = n := by omega
    subst hpn
    refine ⟨y.B, y.d, by rw [hg]; exact hR y hy, ⟨cells, el, us, hB, VRs.mono (R := noR) (Ext.refl _ _) (fun _ h => h) (fun _ _ _ h => by cases h) _ _ hus, hc, hsz⟩, fun h => ?_, fun _ => hG.no y hy, .inr hg, fun _ => ⟨hf, y, hy, rfl, rfl, rfl, hn⟩⟩
    rw [hf] at h; cases h
  · intro n n' e e' p p' hne he he' hp hp' _
    obtain ⟨y, hy, hyp, hg, _⟩ := startEn_sound args 0 vs ios ha n e (ent n e he)
    obtain ⟨y', hy', hyp', hg', _⟩ := startEn_sound args 0 vs ios ha n' e' (ent n' e' he')
    have hpn : y.p = n := by omega
    have hpn' : y'.p = n' := by omega
    subst hpn hpn'
    rw [hg] at hp; rw [hg'] at hp'
    have e1 := Option.some.inj (hp.symm.trans (hR y hy))
    have e2 := Option.some.inj (hp'.symm.trans (hR y' hy'))
    subst e1 e2
    intro hB
    exact hne (by rw [hG.one y hy y' hy' hB])
  · have h1 := startSl_sound args 0 vs ios sl ha hR hs
    have := h1.append (VRs.replicate (m := undefM) (v := undef) (w := w) (ok := ok) (R := R0 ios) rfl k)
    simpa using this
  · intro n g hg
    unfold R0 at hg
    split at hg
    · rename_i h0; omega
    · exact absurd rfl hg

def resVar (tmps : Array Value) : ResultVar → Sem Value
  | .tmp t => pure (tmps.getD t undef)
  | .cell p t => do loadVar t (← asAddr (tmps.getD p undef))
theorem results_eq (fn : Func) (tmps : Array Value) : results fn tmps = (fn.results.mapM (resVar tmps)).bind fun vs => pure (if h : vs.size = 1 then vs[0] else .tuple vs) := by
  unfold results
  show Sem.bind _ _ = Sem.bind _ _
  congr 2

theorem resOf_sound {st : St} {a : Act} {w : World} {ok : Nat → Prop} {R : Nat → Nat → Option (Nat × Nat)} {lim : Nat → Prop} (h : SR G st a w ok R lim) : ∀ (l : List ResultVar) (vs : List MV), resOf P st l = some vs →
    ∃ xs, (l.mapM (resVar a.tmps)).run P w = .ok xs w ∧ VRs w (okA G.w0 G.ok0 w) noR vs xs
  | [], vs, e => by simp [resOf] at e; subst e; exact ⟨[], by simp, VRs.nil⟩
  | .tmp t :: l, vs, e => by
    simp only [resOf] at e
    split at e
    · rename_i v ns l' h1 h2
      cases e
      obtain ⟨xs, hxs, hv⟩ := resOf_sound h l l' h2
      refine ⟨a.tmps.getD t undef :: xs, ?_, VRs.cons (res_freeze h h1 (h.slot t)) hv⟩
      rw [List.mapM_cons, Sem.run_bind]
      simp only [resVar, Sem.run_pure, Result.andThen_ok, Sem.run_bind, hxs]
    · cases e
  | .cell p t :: l, vs, e => by
    simp only [resOf] at e
    split at e
    · rename_i cs l' h1 h2
      split at e
      · rename_i v hv
        split at e
        · rename_i v' ns hf
          cases e
          obtain ⟨xs, hxs, hvs⟩ := resOf_sound h l l' h2
          obtain ⟨B, o, us, hx, hc, hus⟩ := behind_sound h h1 (h.slot p)
          obtain ⟨y, hy, hvy⟩ := takeT_sound (P := P) hv hc hus
          refine ⟨y :: xs, ?_, VRs.cons (res_freeze h hf hvy) hvs⟩
          rw [List.mapM_cons, Sem.run_bind]
          simp only [resVar, hx, asAddr, Sem.run_pure, Result.andThen_ok, Sem.run_bind, hy, hxs]
        · cases e
      · cases e
    · cases e
  where
  res_freeze {st : St} {a : Act} {w : World} {ok : Nat → Prop} {R : Nat → Nat → Option (Nat × Nat)} {lim : Nat → Prop} (h : SR G st a w ok R lim) {m m' : MV} {ns : List Nat} {x : Value} (e : freeze st.ent FUEL m = some (m', ns)) (hv : VR w ok R m x) :
      VR w (okA G.w0 G.ok0 w) noR m' x := by
    refine freeze_sound h (fun b hb => ⟨h.okLt b hb, h.okLow b hb⟩) _ m m' ns x e hv fun nm hn e' b d he hR => ?_
    obtain ⟨B, d', hE⟩ := h.ents nm e' he
    have := Option.some.inj (hR.symm.trans hE.at_); cases this
    exact ⟨hE.lt, .inr (hE.base.resolve_right (freeze_gen _ _ _ _ _ e nm hn e' he))⟩

theorem outsOf_sound {st : St} {a : Act} {w : World} {ok : Nat → Prop} {R : Nat → Nat → Option (Nat × Nat)} {lim : Nat → Prop} (h : SR G st a w ok R lim) (hp : G.ios.Pairwise fun x y => x.p < y.p) : ∀ (l : List IOw) (outs : List (List MV)), (∀ y ∈ l, y ∈ G.ios) → outsOf st (l.map (·.p)) = some outs →
    All2 (OutR w (okA G.w0 G.ok0 w)) l outs
  | [], outs, _, e => by simp [outsOf] at e; subst e; exact .nil
  | y :: l, outs, hl, e => by
    simp only [List.map_cons, outsOf] at e
    split at e
    · rename_i en o h1 h2
      split at e
      · rename_i hh
        cases e
        refine .cons ?_ (outsOf_sound h hp l o (fun z hz => hl z (by simp [hz])) h2)
        obtain ⟨B, d, hE⟩ := h.ents _ en h1
        obtain ⟨_, x, hx, hxp, hxB, hxd, hxn⟩ := hE.io hh.1
        have hxy : x = y := by
          have e1 := R0_find hp x hx
          have e2 := R0_find hp y (hl y (by simp))
          rw [hxp] at e1
          exact Option.some.inj (e1.symm.trans e2)
        subst hxy
        obtain ⟨c, el, vs, b1, b2, b3, _⟩ := hE.body
        refine ⟨hxn.symm, c, el, vs, by rw [hxB]; exact b1, ?_, by rw [hxd]; exact b3⟩
        exact VRs.mono (Ext.refl _ _) (fun b hb => ⟨h.okLt b hb, h.okLow b hb⟩) (fun _ _ _ h => h) _ _ (bare_sound hh.2.2 b2)
      · cases e
    · cases e

/-- THE THEOREM: a body's evaluation is its call's contract. -/
theorem body_sound (hm : P.follows .mixedOrders = true) (hn : ∀ fn ∈ P.funcs, (fn.name == "runtime.NumGoroutine") = false) (hT : TabOK P T) {k : Nat} {io : List Nat} {f : FuncId} {args : List MV} {res : MV} {outs : List (List MV)} (e : evalBody P T k io f args = some (res, outs)) :
    CallOK P io f args res outs := by
  unfold evalBody at e
  split at e
  · cases e
  · rename_i fn hfn
    split at e
    · rename_i c sl hb hsl
      refine ⟨⟨fn, hfn, hn fn (Array.mem_of_getElem? hfn), by rw [hb]; rfl⟩, fun w ok vs ios hG hok ha => ?_⟩
      have hp := (ArgsR.places ha)
      have hlen := ArgsR.length ha
      have hst := start_SR (P := P) hG hok ha hsl (fn.ntmps - args.length)
      refine calls_of_wp hfn hb ?_
      have hsz : fn.ntmps - (⟨vs⟩ : Array Value).size = fn.ntmps - args.length := by simp [hlen]
      rw [hsz]
      have fin : ∀ (st : St), (match resOf P st fn.results.toList, outsOf st ((List.range' 0 args.length).filter fun i => io.contains i) with
          | some [v], some o => some (v, o)
          | some vs, some o => some (.tup vs, o)
          | _, _ => none) = some (res, outs) → ∀ a w', SRx ⟨w, ok, ios⟩ st a w' →
          a.defers = [] ∧ ∃ v, (results fn a.tmps).run P w' = .ok v w' ∧ ∃ x, (Ending.returned v) = .returned x ∧ CallPost w ok ios res outs x w' := by
        intro st hr a w' ⟨_, ok', R, h⟩
        have hout : ∀ o, outsOf st ((List.range' 0 args.length).filter fun i => io.contains i) = some o → All2 (OutR w' (okA w ok w')) ios o := by
          intro o ho
          rw [← hp.1] at ho
          exact outsOf_sound h hp.2.2 ios o (fun _ hy => hy) ho
        have post : ∀ (m : MV) (o : List (List MV)) (x : Value), VR w' (okA w ok w') noR m x → All2 (OutR w' (okA w ok w')) ios o → CallPost w ok ios m o x w' := by
          intro m o x hv ho
          exact ⟨h.os, h.tape, h.output, h.size, h.low, h.ioK, hv, ho⟩
        have hmap : ∀ xs, (fn.results.toList.mapM (resVar a.tmps)).run P w' = .ok xs w' →
            (results fn a.tmps).run P w' = .ok (if h : xs.toArray.size = 1 then xs.toArray[0] else .tuple xs.toArray) w' := by
          intro xs hx
          rw [results_eq, Array.mapM_eq_mapM_toList (m := Sem), Sem.run_bind']
          simp only [Sem.run_map, hx, Result.andThen_ok, Sem.run_pure]
        refine ⟨h.defers, ?_⟩
        split at hr
        · rename_i v o h1 h2
          cases hr
          obtain ⟨xs, hxs, hv⟩ := resOf_sound h _ _ h1
          obtain ⟨x, xt, rfl, hx1, hx2⟩ := hv
          cases hx2
          exact ⟨x, hmap _ hxs, x, rfl, post _ _ _ hx1 (hout _ h2)⟩
        · rename_i vs' o hne h1 h2
          cases hr
          obtain ⟨xs, hxs, hv⟩ := resOf_sound h _ _ h1
          have hl := hv.length
          have hl1 : xs.toArray.size ≠ 1 := by
            intro hl2
            simp at hl2
            rw [hl2] at hl
            obtain ⟨v, rfl⟩ := List.length_eq_one_iff.1 hl.symm
            exact hne v rfl
          have := hmap _ hxs
          rw [dif_neg hl1] at this
          exact ⟨_, this, _, rfl, post _ _ _ ⟨xs, rfl, hv⟩ (hout _ h2)⟩
        · cases hr
      split at e
      · rename_i st hc
        exact code_sound hm hT hG k c _ .normal st _ w _ hc ⟨by simp, ok, R0 ios, hst⟩ fun a' w' h' => fin st e a' w' h'
      · rename_i st hc
        exact code_sound hm hT hG k c _ .ret st _ w _ hc ⟨by simp, ok, R0 ios, hst⟩ fun a' w' h' => fin st e a' w' h'
      · cases e
    · cases e

/-- A table, and beyond it what bodies tell, so many calls deep. -/
def Tab.deep (P : Program) (T : Tab) (k : Nat) : Nat → Tab
  | 0 => T
  | n + 1 => { T with call := fun f args => match T.call f args with | some r => some r | none => evalBody P (Tab.deep P T k n) k (T.io f) f args }
end Go.Proofs.YtkeelkeoijemiaaGreat.Ev

namespace Go.Proofs.YtkeelkeoijemiaaGreat.Ev
open Go Go.RowKit

inductive Ans where
  | auto
  | br (b : Bool)
  | call (r : MV) (outs : List (List MV))
  | val (m : MV)
  | loop (o : Out) (s : St)
  | halt
def Owed : List Prop → Prop
  | [] => True
  | [p] => p
  | p :: r => p ∧ Owed r

/-- Cells without names: frozen, they are what they are. -/
def Plain (cs : List MV) : Prop := ∀ en, freezes en 999999 cs = some (cs, [])

def emptyT (io : FuncId → List Nat) : Tab := { call := fun _ _ => none, io := io }

def takeAs : Bool → Nat → List MV → Option MV
  | true, n, cs => if n ≤ cs.length then some (.agg (cs.take n)) else none
  | false, _, cs => match cs with
    | c :: _ => some c
    | [] => none
def xFreeze (hard : Bool) (en : Nat → Option Ent) (m : MV) : Option (MV × List Nat × List Prop) :=
  if hard then match m with
    | .row nm g off len cap sz => match en nm with
      | some e => some (.fs len cap ((e.cells.drop off).take (len * sz)), [nm], [e.gen = g ∧ g ≠ 0 ∧ off + len * sz ≤ e.cells.length ∧ Plain ((e.cells.drop off).take (len * sz))])
      | none => none
    | m => (freeze en FUEL m).map fun x => (x.1, x.2, [])
  else (freeze en FUEL m).map fun x => (x.1, x.2, [])
def xPrep (hard : Bool) (en : Nat → Option Ent) (io : List Nat) : Nat → List MV → Option (List MV × List Nat × List (Nat × Nat × Nat) × List Prop)
  | _, [] => some ([], [], [], [])
  | i, m :: ms => match xPrep hard en io (i + 1) ms with
    | none => none
    | some (as, fz, ios, b) =>
      if io.contains i then match m with
        | .row nm g off len _ sz => match en nm with
          | some e => some (.fs len none ((e.cells.drop off).take (len * sz)) :: as, fz, (nm, off, len * sz) :: ios, (e.gen = g ∧ e.frozen = false ∧ off + len * sz ≤ e.cells.length ∧ bare ((e.cells.drop off).take (len * sz)) = true) :: b)
          | none => none
        | _ => none
      else match xFreeze hard en m with
        | some (m', f, b') => some (m' :: as, f ++ fz, ios, b' ++ b)
        | none => none
def xBack (en : Nat → Option Ent) : List (Nat × Nat × Nat) → List (List MV) → Option (List (Nat × Option Ent) × List Prop)
  | [], [] => some ([], [])
  | (nm, off, n) :: ios, o :: os => match en nm, xBack en ios os with
    | some e, some (r, b) => some ((nm, some { e with cells := putCells e.cells off o }) :: r, (o.length = n) :: b)
    | _, _ => none
  | _, _ => none

def xCall (T : Tab) (hard : Bool) (io : FuncId → List Nat) (en : Nat → Option Ent) (f : FuncId) (args : List MV) (orc : List Ans) : Option (Res × List Ans × List Prop) :=
  match xPrep hard en (io f) 0 args with
  | none => none
  | some (as, fz, ios, b) =>
    if (ios.map (·.1)).Nodup ∧ (ios.map (·.1)).all (fun n => !fz.contains n) then
      match orc with
      | .call r outs :: orc' => match xBack en ios outs with
        | none => none
        | some (u, b') => some ({ val := r, upd := u, frz := fz, rd := fz ++ ios.map (·.1) }, orc', b ++ (T.call f as = some (r, outs)) :: b')
      | _ => none
    else none

def xAppend (P : Program) (d g : Nat) (en : Nat → Option Ent) (elem : TypeId) (s x : MV) (t : Bool) : Option (Res × List Prop) :=
  match szO P elem, bytesO P elem, zeroO P elem, srcCells en x with
  | some sz, some by_, some z, some (n, new) =>
    if z.length ≠ sz ∨ sz = 0 ∨ by_ = 0 ∨ by_ > 65536 then none else
    match s with
    | .fs len (some c) cs =>
      if t then some ({ val := .row d g 0 (len + n) none sz, upd := [(d, some ⟨g, cs ++ new, false⟩)], rd := nameOf x },
        [new.length = n * sz ∧ new.all cellOk = true ∧ c < len + n ∧ cs.length = len * sz ∧ (len + n) ≤ 1073741824])
      else some ({ val := .fs 0 (some c) [], rd := nameOf x }, [new.length = n * sz ∧ new.all cellOk = true ∧ len + n = 0])
    | .row nm g' off len cap sz' => match en nm with
      | some e => some ({ val := .row d g 0 (len + n) (capIn cap (len + n)) sz, upd := [(nm, none), (d, some ⟨g, e.cells.drop off ++ new, false⟩)], rd := nm :: nameOf x },
        [new.length = n * sz ∧ new.all cellOk = true ∧ e.gen = g' ∧ g' ≠ 0 ∧ e.frozen = false ∧ sz' = sz ∧ off + len * sz = e.cells.length ∧ (len + n) ≤ 1073741824 ∧ (nameOf x).contains nm = false])
      | none => none
    | _ => none
  | _, _, _, _ => none

def xBnd (d : Nat) : Option MV → Option Nat
  | none => some d
  | some m => (intOf? m).map (·.toNat)
def xBndP (len : Nat) : Option MV → List Prop
  | none => []
  | some m => match intOf? m with
    | some i => [0 ≤ i ∧ i ≤ len]
    | none => [False]
def xSlice (sz : Nat) (x : MV) (l h : Nat) (cap : Option Nat) (orc : List Ans) : Option (Res × List Ans × List Prop) :=
  match x with
  | .fs _ _ cs => some ({ val := .fs (h - l) cap ((cs.drop (l * sz)).take ((h - l) * sz)) }, orc, [])
  | .row nm gen off _ _ sz' => if sz' = sz then match orc with
    | .br true :: r => some ({ val := .fs 0 cap [] }, r, [h = l])
    | .br false :: r => some ({ val := .row nm gen (off + l * sz) (h - l) cap sz }, r, [h ≠ l])
    | _ => none else none
  | _ => none

def isCp : MV → Bool
  | .cp _ => true
  | _ => false
def xOp (P : Program) (T : Tab) (hard : Bool) (io : FuncId → List Nat) (o : Oper) (g : Nat) (st : St) (orc : List Ans) : Option (Res × List Ans × List Prop) :=
  match o.op with
  | .call c => match c.callee with
    | .value f => match st.ev f with
      | .fn f caps => xCall T hard io st.ent f (c.args.toList.map st.ev ++ caps) orc
      | _ => none
    | .builtin .append => match orc with
      | .auto :: r => (evalOp P (emptyT io) o g st).map fun x => (x, r, [])
      | .br b :: r => match c.args.toList, c.argTypes.toList, o.dst with
        | [s, x], t :: t2 :: _, some d => match sliceO P t, P.underlying t2 with
          | some e, some (.slice _) => match xAppend P d g st.ent e (st.ev s) (st.ev x) b with
            | some (x, b) => some (x, r, b)
            | none => none
          | _, _ => none
        | _, _, _ => none
      | _ => none
    | _ => (evalOp P (emptyT io) o g st).map fun r => (r, orc, [])
  | .load t a => if (isCp (st.ev a) || hard) = true then match orc with
      | .auto :: r => (evalOp P (emptyT io) o g st).map fun x => (x, r, [])
      | .val m :: r => match behind st.ent (st.ev a), aggO P t, szO P t with
        | some cs, some ag, some n => some ({ val := m, rd := nameOf (st.ev a) }, r, [takeAs ag n cs = some m])
        | _, _, _ => none
      | _ => none
    else (evalOp P (emptyT io) o g st).map fun r => (r, orc, [])
  | .store t a x => if hard then match st.ev a, szO P t, cellsOf (st.ev x) with
      | .ptr nm gen off, some n, some cs => match st.ent nm with
        | some e => some ({ val := undefM, upd := [(nm, some { e with cells := putCells e.cells off cs })], rd := [nm] }, orc, [e.gen = gen ∧ e.frozen = false ∧ cs.length = n ∧ off + n ≤ e.cells.length])
        | none => none
      | _, _, _ => none
    else (evalOp P (emptyT io) o g st).map fun r => (r, orc, [])
  | .binOp .quo _ x y _ => match st.ev x, st.ev y with
    | .sc (.int k a), .sc (.int k' b) => if k = k' then some ({ val := .sc (.int k (k.wrap (a.tdiv b))) }, orc, [b ≠ 0]) else none
    | _, _ => none
  | .binOp .rem _ x y _ => match st.ev x, st.ev y with
    | .sc (.int k a), .sc (.int k' b) => if k = k' then some ({ val := .sc (.int k (a.tmod b)) }, orc, [b ≠ 0]) else none
    | _, _ => none
  | .indexAddr t x i => match P.underlying t, intOf? (st.ev i) with
    | some (.slice e), some n => match szO P e, st.ev x with
      | some sz, .fs len _ cs => some ({ val := .cp (cs.drop (n.toNat * sz)) }, orc, [0 ≤ n ∧ n < len ∧ cs ≠ []])
      | some sz, .row nm gen off len _ sz' => if sz' = sz then some ({ val := .ptr nm gen (off + n.toNat * sz) }, orc, [0 ≤ n ∧ n < len]) else none
      | _, _ => none
    | _, _ => (evalOp P (emptyT io) o g st).map fun r => (r, orc, [])
  | .slice t x lo hi mx => match P.underlying t with
    | some (.slice e) => if mx.isSome && hi.isNone then none else match szO P e, sliceParts (st.ev x) with
      | some sz, some (len, cap) => match xBnd len (hi.map st.ev) with
        | some h => match xBnd 0 (lo.map st.ev), mx.map st.ev with
          | some l, none => match xSlice sz (st.ev x) l h (cap.map (· - l)) orc with
            | some (r, orc', b) => some (r, orc', xBndP len (hi.map st.ev) ++ xBndP h (lo.map st.ev) ++ b)
            | none => none
          | some l, some m => match intOf? m with
            | some mi => match xSlice sz (st.ev x) l h (some (mi.toNat - l)) orc with
              | some (r, orc', b) => some (r, orc', xBndP len (hi.map st.ev) ++ xBndP h (lo.map st.ev) ++ xBndP (cap.getD len) (some m) ++ (h ≤ mi.toNat) :: b)
              | none => none
            | none => none
          | _, _ => none
        | none => none
      | _, _ => none
    | _ => (evalOp P (emptyT io) o g st).map fun r => (r, orc, [])
  | .makeSlice t l c => match sliceO P t, o.dst, intOf? (st.ev l), intOf? (st.ev c) with
    | some e, some d, some ln, some cn => match szO P e, zeroO P e, bytesO P e with
      | some sz, some z, some by_ => if z.length = sz ∧ 0 < sz then
          some ({ val := .row d g 0 ln.toNat (some cn.toNat) sz, upd := [(d, some ⟨g, repCells (z.map cv1) ln.toNat, false⟩)] }, orc, [0 ≤ ln ∧ ln ≤ cn ∧ by_ * cn ≤ 281474976710656 ∧ cn ≤ 4611686018427387904]) else none
      | _, _, _ => none
    | _, _, _, _ => none
  | _ => (evalOp P (emptyT io) o g st).map fun r => (r, orc, [])

def isGuard (ops : List Oper) (i : Nat) : Bool := ops.any fun o => match o.guard with | some (j, _) => j == i | none => false
/-- A test's answer: told, and written where the test's outcome lies. -/
def xBr (st : St) (d : Nat) (orc : List Ans) : Option (St × List Ans × List Prop) :=
  match orc with
  | .auto :: r => some (st, r, [])
  | .br b :: r => some ({ st with sl := st.sl.set d (.sc (.bool b)) }, r, [st.slot d = .sc (.bool b)])
  | _ => none
def xGuard (ops : List Oper) (i : Nat) (o : Oper) (st : St) (orc : List Ans) : Option (St × List Ans × List Prop) :=
  if isGuard ops i then match o.dst with
    | some d => xBr st d orc
    | none => some (st, orc, [])
  else some (st, orc, [])

def xStep (P : Program) (T : Tab) (hard : Bool) (io : FuncId → List Nat) (ops : List Oper) (ck i : Nat) (o : Oper) (st : St) (orc : List Ans) : Option (Option Res × St × List Ans × List Prop) :=
  match wants ops st o with
  | some true => match xOp P T hard io o (ck + i) st orc with
    | some (r, orc1, b1) => match xGuard ops i o (st.put o.dst r) orc1 with
      | some (s, orc2, b2) => some (some r, s, orc2, b1 ++ b2)
      | none => none
    | none => none
  | some false => some (none, st.skip o.dst, orc, [])
  | none => none

def xLog (P : Program) (T : Tab) (hard : Bool) (io : FuncId → List Nat) (ops : List Oper) (ck : Nat) : List (Nat × Oper) → St → List Ans → Option (St × List (Option Res) × List Ans × List Prop)
  | [], st, orc => some (st, [], orc, [])
  | (i, o) :: rest, st, orc => match xStep P T hard io ops ck i o st orc with
    | some (r, s1, orc1, b1) => match xLog P T hard io ops ck rest s1 orc1 with
      | some (s, l, orc2, b2) => some (s, r :: l, orc2, b1 ++ b2)
      | none => none
    | none => none

def xRegion (P : Program) (T : Tab) (hard : Bool) (io : FuncId → List Nat) (ops : Array Oper) (draw : Bool) (st : St) (orc : List Ans) : Option (St × List Ans × List Prop) :=
  match xLog P T hard io ops.toList st.ck (numbered 0 ops.toList) st orc with
  | some (s, log, orc', b) => if !draw || drawOk ops log then some ({ s with ck := st.ck + ops.size }, orc', b) else none
  | none => none

def xLoop (f : St → List Ans → Option (Out × St × List Ans × List Prop)) : Nat → St → List Ans → Option (Out × St × List Ans × List Prop)
  | 0, _, _ => none
  | n + 1, st, orc => match f st orc with
    | some (.normal, s, orc1, b1) => match xLoop f n s orc1 with
      | some (o, s2, orc2, b2) => some (o, s2, orc2, b1 ++ b2)
      | none => none
    | r => r

/-- A loop by its states at the head. -/
def headLoop (g : St → Option (Out × St)) (nm : St → St) : Nat → St → Option (Out × St)
  | 0, _ => none
  | n + 1, s => match g s with
    | some (.normal, s') => headLoop g nm n (nm s')
    | r => r
theorem headLoop_eq {g : St → Option (Out × St)} {nm : St → St} : ∀ (n : Nat) (s : St), evalLoop (fun s => g (nm s)) n s = headLoop g nm n (nm s)
  | 0, _ => rfl
  | n + 1, s => by
    simp only [evalLoop, headLoop]
    cases h : g (nm s) with
    | none => rfl
    | some x =>
      obtain ⟨o, s'⟩ := x
      cases o with
      | normal => exact headLoop_eq n s'
      | exit i => rfl
      | ret => rfl
def xCode (P : Program) (T : Tab) (hard : Bool) (io : FuncId → List Nat) (W : Code → List Nat) : Code → St → List Ans → Option (Out × St × List Ans × List Prop)
  | .skip, st, orc => some (.normal, st, orc, [])
  | .region _ ops draw, st, orc => (xRegion P T hard io ops draw st orc).map fun x => (.normal, x)
  | .seq a b, st, orc => match xCode P T hard io W a st orc with
    | some (.normal, s, orc1, b1) => match xCode P T hard io W b s orc1 with
      | some (o, s2, orc2, b2) => some (o, s2, orc2, b1 ++ b2)
      | none => none
    | r => r
  | .cond c x y, st, orc => match c with
    | .tmp d => match xBr st d orc with
      | some (s, orc1, b1) => match s.slot d with
        | .sc (.bool t) => match (if t then xCode P T hard io W x s orc1 else xCode P T hard io W y s orc1) with
          | some (o, s2, orc2, b2) => some (o, s2, orc2, b1 ++ b2)
          | none => none
        | _ => none
      | none => none
    | _ => none
  | .block id c, st, orc => match xCode P T hard io W c st orc with
    | some (.exit i, s, r) => if i = id then some (.normal, s, r) else some (.exit i, s, r)
    | r => r
  | .loop c, st, orc => match orc with
    | .loop o s :: r => some (o, s, r, [headLoop (evalCode P T W FUEL c) (normSt (W c)) FUEL (normSt (W c) st) = some (o, s)])
    | .halt :: r => some (.ret, st, r, [False])
    | .auto :: r => xLoop (fun s orc => xCode P T hard io W c (normSt (W c) s) orc) FUEL st r
    | _ => none
  | .exit id, st, orc => some (.exit id, st, orc, [])
  | .ret, st, orc => some (.ret, st, orc, [])
  | _, _, _ => none

def xRes (P : Program) (hard : Bool) (st : St) : List ResultVar → Option (List MV × List Prop)
  | [] => some ([], [])
  | .tmp t :: r => match xFreeze hard st.ent (st.slot t), xRes P hard st r with
    | some (v, _, b), some (l, b') => some (v :: l, b ++ b')
    | _, _ => none
  | .cell a t :: r => match behind st.ent (st.slot a), xRes P hard st r with
    | some cs, some (l, b') => match takeT P t cs with
      | some v => match xFreeze hard st.ent v with
        | some (v, _, b) => some (v :: l, b ++ b')
        | none => none
      | none => none
    | _, _ => none
def xOuts (st : St) : List Nat → Option (List (List MV) × List Prop)
  | [] => some ([], [])
  | p :: r => match st.ent p, xOuts st r with
    | some e, some (l, b) => some (e.cells :: l, (e.gen = 0 ∧ e.frozen = false ∧ bare e.cells = true) :: b)
    | _, _ => none

/-- A body, along one path. -/
def xBody (P : Program) (T : Tab) (hard : Bool) (io : FuncId → List Nat) (dd : FuncId → List Nat × List (Nat × Nat)) (f : FuncId) (args : List MV) (orc : List Ans) : Option (MV × List (List MV) × List Prop) :=
  match P.funcs[f]? with
  | none => none
  | some fn => match fn.body, startSl P (io f) fn.params.toList 0 args with
    | some c, some sl =>
      match xCode P T hard io (deadAt (dd f)) c { sl := sl ++ List.replicate (fn.ntmps - args.length) undefM, en := startEn (io f) 0 args ++ List.replicate (fn.ntmps - args.length) none, ck := 1 } orc with
      | some (.normal, st, _, b) | some (.ret, st, _, b) => match xRes P hard st fn.results.toList, xOuts st ((List.range' 0 args.length).filter fun i => (io f).contains i) with
        | some ([v], b1), some (o, b2) => some (v, o, b ++ b1 ++ b2)
        | some (vs, b1), some (o, b2) => some (.tup vs, o, b ++ b1 ++ b2)
        | _, _ => none
      | _ => none
    | _, _ => none

variable {P : Program} {T : Tab}

theorem owed_cons : ∀ {p : Prop} {b : List Prop}, Owed (p :: b) → p ∧ Owed b
  | _, [], h => ⟨h, trivial⟩
  | _, _ :: _, h => h
theorem owed_append : ∀ {a b : List Prop}, Owed (a ++ b) → Owed a ∧ Owed b
  | [], _, h => ⟨trivial, h⟩
  | p :: a, b, h => by
    obtain ⟨h1, h2⟩ := owed_cons (b := a ++ b) h
    obtain ⟨h3, h4⟩ := owed_append h2
    refine ⟨?_, h4⟩
    cases a with
    | nil => exact h1
    | cons q a => exact ⟨h1, h3⟩

theorem evalOp_T {T' : Tab} {o : Oper} {g : Nat} {st : St} (h : ∀ c f, o.op = .call c → c.callee ≠ .value f) : evalOp P T o g st = evalOp P T' o g st := by
  cases ho : o.op with
  | call c =>
    cases hc : c.callee with
    | value f => exact absurd hc (h c f ho)
    | invoke _ _ => simp [evalOp, ho, hc]
    | builtin b => cases b <;> simp [evalOp, ho, hc]
  | makeFunc fn first caps =>
    cases fn with
    | func f => obtain ⟨l⟩ := first; cases l <;> simp [evalOp, ho]
    | _ => simp [evalOp, ho]
  | _ => simp [evalOp, ho]

theorem xFreeze_sound {hard : Bool} {en : Nat → Option Ent} {m m' : MV} {ns : List Nat} {b : List Prop} (e : xFreeze hard en m = some (m', ns, b)) (hb : Owed b) : freeze en FUEL m = some (m', ns) := by
  have plain : (freeze en FUEL m).map (fun x => (x.1, x.2, ([] : List Prop))) = some (m', ns, b) → freeze en FUEL m = some (m', ns) := by
    intro h
    obtain ⟨x, h1, h2⟩ := Option.map_eq_some_iff.1 h
    cases h2; exact h1
  unfold xFreeze at e
  split at e
  · split at e
    · split at e
      · rename_i nm g off len cap sz en' he
        cases e
        obtain ⟨h1, h2, h3, h4⟩ := hb
        show freeze en (999999 + 1) _ = _
        simp only [freeze, he]
        rw [if_pos ⟨h1, h2, h3⟩, h4 en]
        rfl
      · cases e
    · exact plain e
  · exact plain e

theorem xPrep_sound {hard : Bool} {en : Nat → Option Ent} {io : List Nat} : ∀ {ms : List MV} {i : Nat} {as : List MV} {fz : List Nat} {ios : List (Nat × Nat × Nat)} {b : List Prop}, xPrep hard en io i ms = some (as, fz, ios, b) → Owed b → prepArgs en io i ms = some (as, fz, ios)
  | [], i, as, fz, ios, b, e, _ => by simp only [xPrep, Option.some.injEq, Prod.mk.injEq] at e; obtain ⟨rfl, rfl, rfl, _⟩ := e; rfl
  | m :: ms, i, as, fz, ios, b, e, hb => by
    simp only [xPrep] at e
    split at e
    · cases e
    · rename_i as1 fz1 ios1 b1 h1
      split at e
      · rename_i hio
        split at e
        · split at e
          · rename_i nm g off len cap sz en' he
            cases e
            obtain ⟨h2, h3⟩ := owed_cons hb
            simp only [prepArgs, xPrep_sound h1 h3, hio, if_true, he, if_pos h2]
          · cases e
        · cases e
      · rename_i hio
        split at e
        · rename_i m' f b' h2
          cases e
          obtain ⟨h3, h4⟩ := owed_append hb
          simp only [prepArgs, xPrep_sound h1 h4, if_neg hio, xFreeze_sound h2 h3]
        · cases e

theorem xBack_sound {en : Nat → Option Ent} : ∀ {ios : List (Nat × Nat × Nat)} {outs : List (List MV)} {u : List (Nat × Option Ent)} {b : List Prop}, xBack en ios outs = some (u, b) → Owed b → backRows en ios outs = some u
  | [], [], u, b, e, _ => by simp only [xBack, Option.some.injEq, Prod.mk.injEq] at e; obtain ⟨rfl, _⟩ := e; rfl
  | [], _ :: _, _, _, e, _ => by simp [xBack] at e
  | (_, _, _) :: _, [], _, _, e, _ => by simp [xBack] at e
  | (nm, off, n) :: ios, o :: os, u, b, e, hb => by
    simp only [xBack] at e
    split at e
    · rename_i e' r b' h1 h2
      cases e
      obtain ⟨h3, h4⟩ := owed_cons hb
      simp only [backRows, h1, xBack_sound h2 h4, if_pos h3]
    · cases e

theorem xCall_sound {hard : Bool} {en : Nat → Option Ent} {f : FuncId} {args : List MV} {orc orc' : List Ans} {r : Res} {b : List Prop} (e : xCall T hard T.io en f args orc = some (r, orc', b)) (hb : Owed b) : evalCall T en f args = some r := by
  unfold xCall at e
  split at e
  · cases e
  · rename_i as fz ios b1 hp
    split at e
    · rename_i hh
      split at e
      · rename_i r0 outs orc1
        split at e
        · cases e
        · rename_i u b2 hu
          cases e
          obtain ⟨h1, h2⟩ := owed_append hb
          obtain ⟨h3, h4⟩ := owed_cons h2
          simp only [evalCall, xPrep_sound hp h1, if_pos hh, h3, xBack_sound hu h4]
      · cases e
    · cases e

theorem xAppend_sound {d g : Nat} {en : Nat → Option Ent} {elem : TypeId} {s x : MV} {t : Bool} {r : Res} {b : List Prop} (e : xAppend P d g en elem s x t = some (r, b)) (hb : Owed b) : evalAppend P d g en elem s x = some r := by
  unfold xAppend at e
  split at e
  · rename_i sz by_ z n new h1 h2 h3 h4
    split at e
    · cases e
    · rename_i hz
      simp only [not_or, Decidable.not_not, Nat.not_lt] at hz
      obtain ⟨z1, z2, z3, z4⟩ := hz
      have cond : new.length = n * sz → new.all cellOk = true → ¬ (new.length ≠ n * sz ∨ new.all cellOk = false ∨ z.length ≠ sz ∨ sz = 0 ∨ by_ = 0 ∨ by_ > 65536) := by
        intro c1 c2 h
        rcases h with h | h | h | h | h | h
        · exact h c1
        · rw [c2] at h; cases h
        · exact h z1
        · exact z2 h
        · exact z3 h
        · omega
      split at e
      · split at e
        · cases e
          obtain ⟨c1, c2, c3, c4, c5⟩ := hb
          simp only [evalAppend, h1, h2, h3, h4, if_neg (cond c1 c2)]
          rw [if_pos ⟨c3, c4, c5⟩]
        · cases e
          obtain ⟨c1, c2, c3⟩ := hb
          simp only [evalAppend, h1, h2, h3, h4, if_neg (cond c1 c2)]
          rw [if_neg (by omega), if_pos c3]
      · split at e
        · rename_i en' he
          cases e
          obtain ⟨c1, c2, c3⟩ := hb
          simp only [evalAppend, h1, h2, h3, h4, if_neg (cond c1 c2), he]
          have c3' := c3
          rw [if_pos c3']
        · cases e
      · cases e
  · cases e

theorem xBnd_sound {len d : Nat} {x : Option MV} {n : Nat} (e : xBnd d x = some n) (hb : Owed (xBndP len x)) : bound len x d = some n := by
  cases x with
  | none => exact e
  | some m =>
    simp only [xBnd, Option.map_eq_some_iff] at e
    obtain ⟨i, h1, rfl⟩ := e
    have hb' : 0 ≤ i ∧ i ≤ (len : Int) := by simpa [xBndP, h1, Owed] using hb
    simp only [bound, h1, if_pos hb']

theorem xSlice_sound {sz : Nat} {x : MV} {l h : Nat} {cap : Option Nat} {orc orc' : List Ans} {r : Res} {b : List Prop} (e : xSlice sz x l h cap orc = some (r, orc', b)) (hb : Owed b) : sliceOf sz x l h cap = some r := by
  unfold xSlice at e
  split at e
  · cases e; rfl
  · split at e
    · rename_i hsz
      split at e
      · cases e
        have : h = l := hb
        simp only [sliceOf, if_pos hsz, if_pos this]
      · cases e
        have : h ≠ l := hb
        simp only [sliceOf, if_pos hsz, if_neg this]
      · cases e
    · cases e
  · cases e

theorem takeAs_T {t : TypeId} {cs : List MV} {ag : Bool} {n : Nat} {m : MV} (h1 : aggO P t = some ag) (h2 : szO P t = some n) (h : takeAs ag n cs = some m) : takeT P t cs = some m := by
  unfold takeT
  rw [h1, h2]
  cases ag with
  | true => simpa [takeAs] using h
  | false => cases cs with
    | nil => simp [takeAs] at h
    | cons c l => simpa [takeAs] using h

theorem xOp_sound {hard : Bool} {o : Oper} {g : Nat} {st : St} {orc orc' : List Ans} {r : Res} {b : List Prop} (e : xOp P T hard T.io o g st orc = some (r, orc', b)) (hb : Owed b) : evalOp P T o g st = some r := by
  have plain : ∀ (orc : List Ans), (∀ c f, o.op = .call c → c.callee ≠ .value f) → (evalOp P (emptyT T.io) o g st).map (fun r => (r, orc, ([] : List Prop))) = some (r, orc', b) → evalOp P T o g st = some r := by
    intro orc hn h
    obtain ⟨r', h1, h2⟩ := Option.map_eq_some_iff.1 h
    cases h2
    rw [evalOp_T (T' := emptyT T.io) hn]; exact h1
  unfold xOp at e
  split at e
  · -- calls
    rename_i c ho
    split at e
    · rename_i f hc
      split at e
      · rename_i f0 caps hf
        simp only [evalOp, ho, hc, hf]
        exact xCall_sound e hb
      · cases e
    · rename_i hc
      have nv : ∀ c' f, o.op = .call c' → c'.callee ≠ .value f := by intro c' f h1 h2; rw [ho] at h1; cases h1; rw [hc] at h2; cases h2
      split at e
      · exact plain _ nv e
      · split at e
        · rename_i s x t t2 ts d ha ht hd
          split at e
          · rename_i el e2 hs hu
            split at e
            · rename_i x' b' hx
              cases e
              simp only [evalOp, ho, hc, ha, ht, hd, hs, hu]
              exact xAppend_sound hx hb
            · cases e
          · cases e
        · cases e
      · cases e
    · rename_i hc _
      exact plain _ (fun c' f h1 h2 => by rw [ho] at h1; cases h1; exact hc f h2) e
  · rename_i t a ho
    have nv : ∀ c' f, o.op = .call c' → c'.callee ≠ .value f := by intro c' f h1; rw [ho] at h1; cases h1
    split at e
    · split at e
      · exact plain _ nv e
      · split at e
        · rename_i cs ag n h1 h2 h3
          cases e
          simp only [evalOp, ho, h1, takeAs_T h2 h3 hb]
        · cases e
      · cases e
    · exact plain _ nv e
  · rename_i t a x ho
    have nv : ∀ c' f, o.op = .call c' → c'.callee ≠ .value f := by intro c' f h1; rw [ho] at h1; cases h1
    split at e
    · split at e
      · rename_i nm gen off n cs h1 h2 h3
        split at e
        · rename_i en' he
          cases e
          have hb' : en'.gen = gen ∧ en'.frozen = false ∧ cs.length = n ∧ off + n ≤ en'.cells.length := hb
          simp only [evalOp, ho, h1, h2, h3, he]
          rw [if_pos hb']
        · cases e
      · cases e
    · exact plain _ nv e
  · rename_i ty x y p ho
    split at e
    · rename_i k a k' b' h1 h2
      split at e
      · rename_i hk
        subst hk
        cases e
        have hb0 : b' ≠ 0 := hb
        simp only [evalOp, ho]
        simp [pureOp, eqOp, ho, Op.operands, h1, h2, toVal, execOp, eqGuard, binOp, Go.Op.intDiv, hb0]
        rfl
      · cases e
    · cases e
  · rename_i ty x y p ho
    split at e
    · rename_i k a k' b' h1 h2
      split at e
      · rename_i hk
        subst hk
        cases e
        have hb0 : b' ≠ 0 := hb
        simp only [evalOp, ho]
        simp [pureOp, eqOp, ho, Op.operands, h1, h2, toVal, execOp, eqGuard, binOp, Go.Op.intDiv, hb0]
        rfl
      · cases e
    · cases e
  · rename_i t x i ho
    have nv : ∀ c' f, o.op = .call c' → c'.callee ≠ .value f := by intro c' f h1; rw [ho] at h1; cases h1
    split at e
    · rename_i el n h1 h2
      split at e
      · rename_i sz len cap cs h3 h4
        cases e
        have hb' : 0 ≤ n ∧ n < len ∧ cs ≠ [] := hb
        simp only [evalOp, ho, h1, h2, h3, h4, if_pos hb']
      · rename_i sz nm gen off len cap sz' h3 h4
        split at e
        · rename_i hsz
          cases e
          have hb' : 0 ≤ n ∧ n < len := hb
          simp only [evalOp, ho, h1, h2, h3, h4]
          rw [if_pos ⟨hb'.1, hb'.2, hsz⟩]
        · cases e
      · cases e
    · exact plain _ nv e
  · rename_i t x lo hi mx ho
    have nv : ∀ c' f, o.op = .call c' → c'.callee ≠ .value f := by intro c' f h1; rw [ho] at h1; cases h1
    split at e
    · rename_i el h1
      split at e
      · cases e
      · rename_i hmx
        split at e
        · rename_i sz len cap h2 h3
          split at e
          · rename_i h hh
            split at e
            · rename_i l hl hm
              split at e
              · rename_i r' orc1 b' hx
                cases e
                obtain ⟨c1, c2⟩ := owed_append hb
                obtain ⟨c3, c4⟩ := owed_append c1
                simp only [evalOp, ho, h1, if_neg hmx, h2, h3, xBnd_sound hh c3, xBnd_sound hl c4, hm, maxB]
                simpa using xSlice_sound hx c2
              · cases e
            · rename_i l m hl hm
              split at e
              · rename_i mi hmi
                split at e
                · rename_i r' orc1 b' hx
                  cases e
                  obtain ⟨c1, c2⟩ := owed_append hb
                  obtain ⟨c1, c5⟩ := owed_append c1
                  obtain ⟨c3, c4⟩ := owed_append c1
                  obtain ⟨c6, c7⟩ := owed_cons c2
                  have hmb : bound (cap.getD len) (some m) 0 = some mi.toNat := xBnd_sound (by simp [xBnd, hmi]) c5
                  simp only [evalOp, ho, h1, if_neg hmx, h2, h3, xBnd_sound hh c3, xBnd_sound hl c4, hm, maxB, hmb]
                  simpa [c6] using xSlice_sound hx c7
                · cases e
              · cases e
            · cases e
          · cases e
        · cases e
    · exact plain _ nv e
  · rename_i t l c ho
    split at e
    · rename_i el d ln cn h1 h2 h3 h4
      split at e
      · rename_i sz z by_ h5 h6 h7
        split at e
        · rename_i hz
          cases e
          have hb' : 0 ≤ ln ∧ ln ≤ cn ∧ by_ * cn ≤ 281474976710656 ∧ cn ≤ 4611686018427387904 := hb
          simp only [evalOp, ho, h1, h2, h3, h4, h5, h6, h7]
          rw [if_pos ⟨hz.1, hz.2, hb'⟩]
        · cases e
      · cases e
    · cases e
  · rename_i hn _ _ _ _ _ _ _
    exact plain _ (fun c f h1 _ => hn c h1) e

theorem set_slot {st : St} {d : Nat} {m : MV} (h : st.slot d = m) : { st with sl := st.sl.set d m } = st := by
  have : st.sl.set d m = st.sl := by
    apply List.ext_getElem?
    intro i
    rw [List.getElem?_set]
    split
    · rename_i hi
      subst hi
      split
      · rename_i hl
        unfold St.slot at h
        rw [List.getD_eq_getElem?_getD, List.getElem?_eq_getElem hl] at h
        rw [List.getElem?_eq_getElem hl, ← h]; rfl
      · rename_i hl
        rw [List.getElem?_eq_none (by omega)]
    · rfl
  rw [this]

theorem xBr_sound {st s : St} {d : Nat} {orc orc' : List Ans} {b : List Prop} (e : xBr st d orc = some (s, orc', b)) (hb : Owed b) : s = st := by
  unfold xBr at e
  split at e
  · cases e; rfl
  · cases e
    exact set_slot hb
  · cases e

theorem xStep_sound {hard : Bool} {ops : List Oper} {ck i : Nat} {o : Oper} {st s : St} {orc orc' : List Ans} {r : Option Res} {b : List Prop} (e : xStep P T hard T.io ops ck i o st orc = some (r, s, orc', b)) (hb : Owed b) : step1 P T ops (ck + i) o st = some (r, s) := by
  unfold xStep at e
  unfold step1
  split at e
  · rename_i hw
    split at e
    · rename_i r0 orc1 b1 h1
      split at e
      · rename_i s2 orc2 b2 h2
        cases e
        obtain ⟨hb1, hb2⟩ := owed_append hb
        rw [hw]
        simp only [xOp_sound h1 hb1]
        unfold xGuard at h2
        split at h2
        · split at h2
          · rw [xBr_sound h2 hb2]
          · cases h2; rfl
        · cases h2; rfl
      · cases e
    · cases e
  · rename_i hw
    cases e
    rw [hw]
  · cases e

theorem xLog_sound {hard : Bool} {ops : List Oper} {ck : Nat} : ∀ (l : List (Nat × Oper)) (st s : St) (log : List (Option Res)) (orc orc' : List Ans) (b : List Prop), xLog P T hard T.io ops ck l st orc = some (s, log, orc', b) → Owed b → evalLog P T ops ck l st = some (s, log)
  | [], st, s, log, orc, orc', b, e, _ => by simp only [xLog, Option.some.injEq, Prod.mk.injEq] at e; obtain ⟨rfl, rfl, _⟩ := e; rfl
  | (i, o) :: rest, st, s, log, orc, orc', b, e, hb => by
    simp only [xLog] at e
    split at e
    · rename_i r s1 orc1 b1 h1
      split at e
      · rename_i s2 l2 orc2 b2 h2
        cases e
        obtain ⟨hb1, hb2⟩ := owed_append hb
        simp only [evalLog, xStep_sound h1 hb1, xLog_sound rest s1 _ l2 orc1 _ b2 h2 hb2]
      · cases e
    · cases e

theorem log_ops {ops : List Oper} {ck : Nat} : ∀ (l : List Oper) (i : Nat) (st s : St) (log : List (Option Res)), evalLog P T ops ck (numbered i l) st = some (s, log) → evalOps P T ops ck i l st = some s
  | [], i, st, s, log, e => by simp only [numbered, evalLog, Option.some.injEq, Prod.mk.injEq] at e; obtain ⟨rfl, _⟩ := e; rfl
  | o :: l, i, st, s, log, e => by
    simp only [numbered, evalLog] at e
    split at e
    · rename_i r s1 h1
      split at e
      · rename_i s2 l2 h2
        cases e
        have ih := log_ops l (i + 1) s1 _ l2 h2
        obtain ⟨rfl, hst⟩ := step1_iff.1 h1
        simp only [evalOps]
        cases r with
        | none => simp only at hst; rw [hst]; exact ih
        | some r => simp only at hst; rw [hst.1]; simp only [hst.2]; exact ih
      · cases e
    · cases e

theorem xRegion_sound {hard : Bool} {ops : Array Oper} {draw : Bool} {st s : St} {orc orc' : List Ans} {b : List Prop} (e : xRegion P T hard T.io ops draw st orc = some (s, orc', b)) (hb : Owed b) : evalRegion P T ops draw st = some s := by
  unfold xRegion at e
  split at e
  · rename_i s1 log orc1 b1 h1
    split at e
    · rename_i hd
      cases e
      have hl := xLog_sound _ _ _ _ _ _ _ h1 hb
      unfold evalRegion
      cases draw with
      | false => simp only [Bool.false_eq_true, if_false, log_ops _ 0 _ _ _ hl]
      | true =>
        simp only [Bool.not_true, Bool.false_or] at hd
        simp only [if_true, hl, hd]
    · cases e
  · cases e

theorem xLoop_sound {f : St → List Ans → Option (Out × St × List Ans × List Prop)} {g : St → Option (Out × St)} (h : ∀ st s o orc orc' b, f st orc = some (o, s, orc', b) → Owed b → g st = some (o, s)) : ∀ (n : Nat) (st s : St) (o : Out) (orc orc' : List Ans) (b : List Prop), xLoop f n st orc = some (o, s, orc', b) → Owed b → evalLoop g n st = some (o, s)
  | 0, _, _, _, _, _, _, e, _ => by simp [xLoop] at e
  | n + 1, st, s, o, orc, orc', b, e, hb => by
    simp only [xLoop] at e
    simp only [evalLoop]
    split at e
    · rename_i s1 orc1 b1 h1
      split at e
      · rename_i o2 s2 orc2 b2 h2
        cases e
        obtain ⟨hb1, hb2⟩ := owed_append hb
        rw [h _ _ _ _ _ _ h1 hb1]
        exact xLoop_sound h n _ _ _ _ _ _ h2 hb2
      · cases e
    · rename_i hn
      have h1 := h _ _ _ _ _ _ e hb
      rw [h1]
      cases o with
      | normal => exact absurd e (hn s orc' b)
      | exit i => rfl
      | ret => rfl

theorem xCode_sound {hard : Bool} {W : Code → List Nat} : ∀ (c : Code) (st s : St) (o : Out) (orc orc' : List Ans) (b : List Prop), xCode P T hard T.io W c st orc = some (o, s, orc', b) → Owed b → evalCode P T W FUEL c st = some (o, s)
  | .skip, st, s, o, orc, orc', b, e, _ => by simp only [xCode, Option.some.injEq, Prod.mk.injEq] at e; obtain ⟨rfl, rfl, _⟩ := e; rfl
  | .region id ops draw, st, s, o, orc, orc', b, e, hb => by
    simp only [xCode, Option.map_eq_some_iff] at e
    obtain ⟨⟨s1, orc1, b1⟩, h1, h2⟩ := e
    cases h2
    simp only [evalCode, xRegion_sound h1 hb, Option.map_some]
  | .seq x y, st, s, o, orc, orc', b, e, hb => by
    simp only [xCode] at e
    simp only [evalCode]
    split at e
    · rename_i s1 orc1 b1 h1
      split at e
      · rename_i o2 s2 orc2 b2 h2
        cases e
        obtain ⟨hb1, hb2⟩ := owed_append hb
        rw [xCode_sound x _ _ _ _ _ _ h1 hb1]
        exact xCode_sound y _ _ _ _ _ _ h2 hb2
      · cases e
    · rename_i hn
      have h1 := xCode_sound x _ _ _ _ _ _ e hb
      rw [h1]
      cases o with
      | normal => exact absurd e (hn s orc' b)
      | exit i => rfl
      | ret => rfl
  | .cond c x y, st, s, o, orc, orc', b, e, hb => by
    simp only [xCode] at e
    split at e
    · rename_i d
      split at e
      · rename_i s1 orc1 b1 h1
        split at e
        · rename_i t ht
          split at e
          · rename_i o2 s2 orc2 b2 h2
            cases e
            obtain ⟨hb1, hb2⟩ := owed_append hb
            have := xBr_sound h1 hb1
            subst this
            simp only [evalCode, St.ev, ht]
            cases t with
            | true => exact xCode_sound x _ _ _ _ _ _ h2 hb2
            | false => exact xCode_sound y _ _ _ _ _ _ h2 hb2
          · cases e
        · cases e
      · cases e
    · cases e
  | .block id c, st, s, o, orc, orc', b, e, hb => by
    simp only [xCode] at e
    simp only [evalCode]
    split at e
    · rename_i i s1 r h1
      obtain ⟨orc1, b1⟩ := r
      split at e
      · rename_i hi
        cases e
        rw [xCode_sound c _ _ _ _ _ _ h1 hb]
        simp only [if_pos hi]
      · rename_i hi
        cases e
        rw [xCode_sound c _ _ _ _ _ _ h1 hb]
        simp only [if_neg hi]
    · rename_i hn
      have h1 := xCode_sound c _ _ _ _ _ _ e hb
      rw [h1]
      cases o with
      | exit i => exact absurd e (hn i s (orc', b))
      | normal => rfl
      | ret => rfl
  | .loop c, st, s, o, orc, orc', b, e, hb => by
    simp only [xCode] at e
    simp only [evalCode]
    split at e
    · cases e; rw [headLoop_eq (g := evalCode P T W FUEL c)]; exact hb
    · cases e; exact hb.elim
    · exact xLoop_sound (fun st s o orc orc' b h1 h2 => xCode_sound c _ _ _ _ _ _ h1 h2) FUEL st s o _ orc' b e hb
    · cases e
  | .exit id, st, s, o, orc, orc', b, e, _ => by simp only [xCode, Option.some.injEq, Prod.mk.injEq] at e; obtain ⟨rfl, rfl, _⟩ := e; rfl
  | .ret, st, s, o, orc, orc', b, e, _ => by simp only [xCode, Option.some.injEq, Prod.mk.injEq] at e; obtain ⟨rfl, rfl, _⟩ := e; rfl
  | .rangeFunc .., _, _, _, _, _, _, e, _ => by simp [xCode] at e
  | .scope _, _, _, _, _, _, _, e, _ => by simp [xCode] at e
  | .label _, _, _, _, _, _, _, e, _ => by simp [xCode] at e
  | .goto _, _, _, _, _, _, _, e, _ => by simp [xCode] at e
  | .refuse _, _, _, _, _, _, _, e, _ => by simp [xCode] at e

theorem xRes_sound {hard : Bool} {st : St} : ∀ (l : List ResultVar) (vs : List MV) (b : List Prop), xRes P hard st l = some (vs, b) → Owed b → resOf P st l = some vs
  | [], vs, b, e, _ => by simp only [xRes, Option.some.injEq, Prod.mk.injEq] at e; obtain ⟨rfl, _⟩ := e; rfl
  | .tmp t :: l, vs, b, e, hb => by
    simp only [xRes] at e
    split at e
    · rename_i v ns b1 l' b2 h1 h2
      cases e
      obtain ⟨c1, c2⟩ := owed_append hb
      simp only [resOf, xFreeze_sound h1 c1, xRes_sound l l' b2 h2 c2]
    · cases e
  | .cell a t :: l, vs, b, e, hb => by
    simp only [xRes] at e
    split at e
    · rename_i cs l' b2 h1 h2
      split at e
      · rename_i v hv
        split at e
        · rename_i v' ns b1 h3
          cases e
          obtain ⟨c1, c2⟩ := owed_append hb
          simp only [resOf, h1, hv, xFreeze_sound h3 c1, xRes_sound l l' b2 h2 c2]
        · cases e
      · cases e
    · cases e
theorem xOuts_sound {st : St} : ∀ (l : List Nat) (os : List (List MV)) (b : List Prop), xOuts st l = some (os, b) → Owed b → outsOf st l = some os
  | [], os, b, e, _ => by simp only [xOuts, Option.some.injEq, Prod.mk.injEq] at e; obtain ⟨rfl, _⟩ := e; rfl
  | p :: l, os, b, e, hb => by
    simp only [xOuts] at e
    split at e
    · rename_i e' l' b' h1 h2
      cases e
      obtain ⟨c1, c2⟩ := owed_cons hb
      simp only [outsOf, h1, xOuts_sound l l' b' h2 c2, if_pos c1]
    · cases e

theorem xBody_sound {hard : Bool} {io : FuncId → List Nat} {dd : FuncId → List Nat × List (Nat × Nat)} (hio : T.io = io) (hdd : T.dd = dd) {f : FuncId} {args : List MV} {orc : List Ans} {r : MV} {outs : List (List MV)} {b : List Prop} (e : xBody P T hard io dd f args orc = some (r, outs, b)) (hb : Owed b) : evalBody P T FUEL (T.io f) f args = some (r, outs) := by
  subst hio
  subst hdd
  unfold xBody at e
  unfold evalBody
  split at e
  · cases e
  · rename_i fn hfn
    split at e
    · rename_i c sl hc hs
      simp only [hfn, hc, hs]
      have fin : ∀ (st : St) (b0 : List Prop), (match xRes P hard st fn.results.toList, xOuts st ((List.range' 0 args.length).filter fun i => (T.io f).contains i) with
          | some ([v], b1), some (o, b2) => some (v, o, b0 ++ b1 ++ b2)
          | some (vs, b1), some (o, b2) => some (.tup vs, o, b0 ++ b1 ++ b2)
          | _, _ => none) = some (r, outs, b) → Owed b0 ∧ (match resOf P st fn.results.toList, outsOf st ((List.range' 0 args.length).filter fun i => (T.io f).contains i) with
          | some [v], some o => some (v, o)
          | some vs, some o => some (.tup vs, o)
          | _, _ => none) = some (r, outs) := by
        intro st b0 h
        split at h
        · rename_i v b1 o b2 h1 h2
          cases h
          obtain ⟨c1, c2⟩ := owed_append hb
          obtain ⟨c3, c4⟩ := owed_append c1
          exact ⟨c3, by simp only [xRes_sound _ _ _ h1 c4, xOuts_sound _ _ _ h2 c2]⟩
        · rename_i vs b1 o b2 hne h1 h2
          cases h
          obtain ⟨c1, c2⟩ := owed_append hb
          obtain ⟨c3, c4⟩ := owed_append c1
          refine ⟨c3, ?_⟩
          rw [xRes_sound _ _ _ h1 c4, xOuts_sound _ _ _ h2 c2]
          split
          · rename_i v o' h3 h4
            cases h3
            exact (hne v rfl).elim
          · rename_i vs' o' h3 h4 h5; cases h4; cases h5; rfl
          · rename_i h3; exact absurd rfl (h3 _ _ rfl)
        · cases h
      split at e
      · rename_i st orc1 b1 h1
        obtain ⟨c1, c2⟩ := fin st b1 e
        rw [xCode_sound c _ _ _ _ _ _ h1 c1]
        exact c2
      · rename_i st orc1 b1 h1
        obtain ⟨c1, c2⟩ := fin st b1 e
        rw [xCode_sound c _ _ _ _ _ _ h1 c1]
        exact c2
      · cases e
    · cases e
end Go.Proofs.YtkeelkeoijemiaaGreat.Ev

