/- A function's body by its evaluation: the contract of its call. -/
import Derived.Test.YtkeelkeoijemiaaEvN
namespace Go.Proofs.Ytkeelkeoijemiaa.Ev
open Go Go.RowKit

variable {P : Program} {T : Tab} {G : Gh}

theorem ArgsR.places {w : World} {ok : Nat → Prop} {io : List Nat} : ∀ {ms : List MV} {i : Nat} {vs : List Value} {ios : List IOw}, ArgsR w ok io i ms vs ios →
    ios.map (·.p) = (List.range' i ms.length).filter (fun i => io.contains i) ∧ (∀ y ∈ ios, i ≤ y.p) ∧ ios.Pairwise (fun x y => x.p < y.p)
  | [], i, vs, ios, ⟨_, h⟩ => by subst h; simp
  | m :: ms, i, vs, ios, ⟨v, vt, _, h⟩ => by
    split at h
    · rename_i hio
      obtain ⟨y, ys, rfl, hy, hs⟩ := h
      obtain ⟨e1, e2, e3⟩ := ArgsR.places hs
      refine ⟨?_, fun z hz => ?_, List.pairwise_cons.2 ⟨fun z hz => ?_, e3⟩⟩
      · rw [List.length_cons, List.range'_succ, List.filter_cons, if_pos hio, List.map_cons, e1, hy.1]
      · rcases List.mem_cons.1 hz with rfl | hz
        · rw [hy.1]; exact Nat.le_refl _
        · have := e2 z hz; omega
      · have := e2 z hz; rw [hy.1]; omega
    · rename_i hio
      obtain ⟨_, hs⟩ := h
      obtain ⟨e1, e2, e3⟩ := ArgsR.places hs
      refine ⟨?_, fun z hz => by have := e2 z hz; omega, e3⟩
      rw [List.length_cons, List.range'_succ, List.filter_cons, if_neg hio, e1]

theorem ArgsR.length {w : World} {ok : Nat → Prop} {io : List Nat} : ∀ {ms : List MV} {i : Nat} {vs : List Value} {ios : List IOw}, ArgsR w ok io i ms vs ios → vs.length = ms.length
  | [], _, _, _, ⟨h, _⟩ => by subst h; rfl
  | m :: ms, i, _, _, ⟨v, vt, e, h⟩ => by
    subst e
    split at h
    · obtain ⟨_, _, _, _, hs⟩ := h; simp [ArgsR.length hs]
    · simp [ArgsR.length h.2]

def R0 (ios : List IOw) : Nat → Nat → Option (Nat × Nat) := fun n g => if g = 0 then (ios.find? fun y => y.p == n).map fun y => (y.B, y.d) else none
theorem R0_find : ∀ {ios : List IOw}, ios.Pairwise (fun x y => x.p < y.p) → ∀ y ∈ ios, ios.find? (fun z => z.p == y.p) = some y
  | [], _, y, h => by cases h
  | x :: l, hp, y, hy => by
    obtain ⟨h1, h2⟩ := List.pairwise_cons.1 hp
    rw [List.find?_cons]
    rcases List.mem_cons.1 hy with rfl | hy
    · simp
    · have := h1 y hy
      have : (x.p == y.p) = false := by simp; omega
      rw [this]; exact R0_find h2 y hy
theorem R0_at {ios : List IOw} (hp : ios.Pairwise (fun x y => x.p < y.p)) {y : IOw} (hy : y ∈ ios) : R0 ios y.p 0 = some (y.B, y.d) := by simp [R0, R0_find hp y hy]

theorem startSl_sound {w : World} {ok : Nat → Prop} {io : List Nat} {params : List TypeId} {R : Nat → Nat → Option (Nat × Nat)} : ∀ (ms : List MV) (i : Nat) (vs : List Value) (ios : List IOw) (sl : List MV), ArgsR w ok io i ms vs ios → (∀ y ∈ ios, R y.p 0 = some (y.B, y.d)) →
    startSl P io params i ms = some sl → VRs w ok R sl vs
  | [], i, vs, ios, sl, ⟨h, _⟩, _, e => by simp [startSl] at e; subst e h; exact VRs.nil
  | m :: ms, i, vs, ios, sl, ⟨v, vt, hv, h⟩, hR, e => by
    subst hv
    simp only [startSl] at e
    split at e
    · cases e
    · rename_i l hl
      split at e
      · rename_i hio
        rw [if_pos hio] at h
        obtain ⟨y, ys, rfl, ⟨hyp, len, c, cs, el, cells, us, hm, hx, hlc, _⟩, hs⟩ := h
        have hr := startSl_sound ms (i + 1) vt ys l hs (fun z hz => hR z (by simp [hz])) hl
        split at e
        · rename_i len' cap' cs' el' hpe
          split at e
          · rename_i sz hsz
            split at e
            · cases e
              cases hm
              exact VRs.cons ⟨y.B, y.d, c, by have := hR y (by simp); rw [hyp] at this; exact this, hx, hlc, fun k hk => (by cases hk), fun hg => absurd rfl hg⟩ hr
            · cases e
          · cases e
        · cases e
      · rename_i hio
        rw [if_neg hio] at h
        cases e
        exact VRs.cons (VR.mono (R := noR) (Ext.refl _ _) (fun _ h => h) (fun _ _ _ h => by cases h) _ _ h.1) (startSl_sound ms (i + 1) vt ios l h.2 hR hl)

theorem startEn_sound {w : World} {ok : Nat → Prop} {io : List Nat} : ∀ (ms : List MV) (i : Nat) (vs : List Value) (ios : List IOw), ArgsR w ok io i ms vs ios → ∀ k e, (startEn io i ms)[k]? = some (some e) →
    ∃ y ∈ ios, y.p = i + k ∧ e.gen = 0 ∧ e.frozen = false ∧ y.n = e.cells.length ∧ ∃ el cells us, w.heap[y.B]? = some (.cells cells el (0, 0)) ∧ VRs w ok noR e.cells us ∧ (∀ j, j < us.length → cells[y.d + j]? = us[j]?) ∧ (us = [] ∨ y.d + us.length ≤ cells.size)
  | [], i, vs, ios, _, k, e, he => by simp [startEn] at he
  | m :: ms, i, vs, ios, ⟨v, vt, hv, h⟩, k, e, he => by
    simp only [startEn] at he
    cases k with
    | zero =>
      simp only [List.getElem?_cons_zero, Option.some.injEq] at he
      split at he
      · rename_i hio
        rw [if_pos hio] at h
        obtain ⟨y, ys, rfl, ⟨hyp, len, c, cs, el, cells, us, hm, hx, hlc, hn, hB, hus, hc, hsz⟩, hs⟩ := h
        subst hm
        simp only [Option.some.injEq] at he
        subst he
        exact ⟨y, by simp, by omega, rfl, rfl, hn, el, cells, us, hB, hus, hc, hsz⟩
      · cases he
    | succ k =>
      simp only [List.getElem?_cons_succ] at he
      split at h
      · obtain ⟨y, ys, rfl, _, hs⟩ := h
        obtain ⟨z, hz, e1, e2⟩ := startEn_sound ms (i + 1) vt ys hs k e he
        exact ⟨z, by simp [hz], by omega, e2⟩
      · obtain ⟨z, hz, e1, e2⟩ := startEn_sound ms (i + 1) vt ios h.2 k e he
        exact ⟨z, hz, by omega, e2⟩
theorem startEn_len (io : List Nat) : ∀ (i : Nat) (ms : List MV), (startEn io i ms).length = ms.length
  | _, [] => rfl
  | i, m :: ms => by simp [startEn, startEn_len io (i + 1) ms]

/-- The state at a function's begin. -/
theorem start_SR {w : World} {ok : Nat → Prop} {io : List Nat} {args : List MV} {vs : List Value} {ios : List IOw} {params : List TypeId} {sl : List MV} (hG : Gh.ok ⟨w, ok, ios⟩) (hok : ∀ b, ok b → b < w.heap.size) (ha : ArgsR w ok io 0 args vs ios)
    (hs : startSl P io params 0 args = some sl) (k : Nat) : SR ⟨w, ok, ios⟩ { sl := sl ++ List.replicate k undefM, en := startEn io 0 args ++ List.replicate k none, ck := 1 } { tmps := ⟨vs⟩ ++ Array.replicate k undef, defers := [] } w ok (R0 ios) (fun g => g < 1) := by
  obtain ⟨hp1, _, hp3⟩ := ArgsR.places ha
  have hR : ∀ y ∈ ios, R0 ios y.p 0 = some (y.B, y.d) := fun y hy => R0_at hp3 hy
  have ent : ∀ n e, ({ sl := sl ++ List.replicate k undefM, en := startEn io 0 args ++ List.replicate k none, ck := 1 } : St).ent n = some e → (startEn io 0 args)[n]? = some (some e) := by
    intro n e he
    unfold St.ent at he
    simp only [List.getD_eq_getElem?_getD, List.getElem?_append] at he
    split at he
    · rename_i hl
      rw [List.getElem?_eq_getElem hl] at he ⊢
      simpa using he
    · rw [List.getElem?_replicate] at he
      split at he <;> simp at he
  refine { os := rfl, tape := rfl, output := rfl, size := Nat.le_refl _, low := fun _ _ _ => rfl, ioK := ?_, okLt := hok, okLow := fun b hb => .inl hb, okUp := fun b hb => hb, ents := ?_, apart := ?_, slots := ?_, defers := rfl, fresh := ?_ }
  · intro x hx
    have hlt := hG.lt x hx
    -- a row of cells: by the argument
    have : ∀ {ms : List MV} {i : Nat} {vs : List Value} {ios : List IOw}, ArgsR w ok io i ms vs ios → ∀ y ∈ ios, ∃ c el, w.heap[y.B]? = some (.cells c el (0, 0)) := by
      intro ms
      induction ms with
      | nil => intro i vs ios ⟨_, h⟩ y hy; subst h; cases hy
      | cons m ms ih =>
        intro i vs ios ⟨v, vt, _, h⟩ y hy
        split at h
        · obtain ⟨z, zs, rfl, ⟨_, _, _, _, el, cells, _, _, _, _, _, hB, _⟩, hs⟩ := h
          rcases List.mem_cons.1 hy with rfl | hy
          · exact ⟨cells, el, hB⟩
          · exact ih hs y hy
        · exact ih h.2 y hy
    obtain ⟨c, el, hB⟩ := this ha x hx
    exact ⟨c, c, el, (0, 0), hB, hB, rfl, fun _ _ => rfl⟩
  · intro n e he
    obtain ⟨y, hy, hyp, hg, hf, hn, el, cells, us, hB, hus, hc, hsz⟩ := startEn_sound args 0 vs ios ha n e (ent n e he)
    have hpn : y.p = n := by omega
    subst hpn
    refine ⟨y.B, y.d, by rw [hg]; exact hR y hy, ⟨cells, el, us, hB, VRs.mono (R := noR) (Ext.refl _ _) (fun _ h => h) (fun _ _ _ h => by cases h) _ _ hus, hc, hsz⟩, fun h => ?_, fun _ => hG.no y hy, .inr hg, fun _ => ⟨hf, y, hy, rfl, rfl, rfl, hn⟩⟩
    rw [hf] at h; cases h
  · intro n n' e e' p p' hne he he' hp hp' _
    obtain ⟨y, hy, hyp, hg, _⟩ := startEn_sound args 0 vs ios ha n e (ent n e he)
    obtain ⟨y', hy', hyp', hg', _⟩ := startEn_sound args 0 vs ios ha n' e' (ent n' e' he')
    have hpn : y.p = n := by omega
    have hpn' : y'.p = n' := by omega
    subst hpn hpn'
    rw [hg] at hp; rw [hg'] at hp'
    have e1 := Option.some.inj (hp.symm.trans (hR y hy))
    have e2 := Option.some.inj (hp'.symm.trans (hR y' hy'))
    subst e1 e2
    intro hB
    exact hne (by rw [hG.one y hy y' hy' hB])
  · have h1 := startSl_sound args 0 vs ios sl ha hR hs
    have := h1.append (VRs.replicate (m := undefM) (v := undef) (w := w) (ok := ok) (R := R0 ios) rfl k)
    simpa using this
  · intro n g hg
    unfold R0 at hg
    split at hg
    · rename_i h0; omega
    · exact absurd rfl hg

def resVar (tmps : Array Value) : ResultVar → Sem Value
  | .tmp t => pure (tmps.getD t undef)
  | .cell p t => do loadVar t (← asAddr (tmps.getD p undef))
theorem results_eq (fn : Func) (tmps : Array Value) : results fn tmps = (fn.results.mapM (resVar tmps)).bind fun vs => pure (if h : vs.size = 1 then vs[0] else .tuple vs) := by
  unfold results
  show Sem.bind _ _ = Sem.bind _ _
  congr 2

theorem resOf_sound {st : St} {a : Act} {w : World} {ok : Nat → Prop} {R : Nat → Nat → Option (Nat × Nat)} {lim : Nat → Prop} (h : SR G st a w ok R lim) : ∀ (l : List ResultVar) (vs : List MV), resOf P st l = some vs →
    ∃ xs, (l.mapM (resVar a.tmps)).run P w = .ok xs w ∧ VRs w (okA G.w0 G.ok0 w) noR vs xs
  | [], vs, e => by simp [resOf] at e; subst e; exact ⟨[], by simp, VRs.nil⟩
  | .tmp t :: l, vs, e => by
    simp only [resOf] at e
    split at e
    · rename_i v ns l' h1 h2
      cases e
      obtain ⟨xs, hxs, hv⟩ := resOf_sound h l l' h2
      refine ⟨a.tmps.getD t undef :: xs, ?_, VRs.cons (res_freeze h h1 (h.slot t)) hv⟩
      rw [List.mapM_cons, Sem.run_bind]
      simp only [resVar, Sem.run_pure, Result.andThen_ok, Sem.run_bind, hxs]
    · cases e
  | .cell p t :: l, vs, e => by
    simp only [resOf] at e
    split at e
    · rename_i cs l' h1 h2
      split at e
      · rename_i v hv
        split at e
        · rename_i v' ns hf
          cases e
          obtain ⟨xs, hxs, hvs⟩ := resOf_sound h l l' h2
          obtain ⟨B, o, us, hx, hc, hus⟩ := behind_sound h h1 (h.slot p)
          obtain ⟨y, hy, hvy⟩ := takeT_sound (P := P) hv hc hus
          refine ⟨y :: xs, ?_, VRs.cons (res_freeze h hf hvy) hvs⟩
          rw [List.mapM_cons, Sem.run_bind]
          simp only [resVar, hx, asAddr, Sem.run_pure, Result.andThen_ok, Sem.run_bind, hy, hxs]
        · cases e
      · cases e
    · cases e
  where
  res_freeze {st : St} {a : Act} {w : World} {ok : Nat → Prop} {R : Nat → Nat → Option (Nat × Nat)} {lim : Nat → Prop} (h : SR G st a w ok R lim) {m m' : MV} {ns : List Nat} {x : Value} (e : freeze st.ent FUEL m = some (m', ns)) (hv : VR w ok R m x) :
      VR w (okA G.w0 G.ok0 w) noR m' x := by
    refine freeze_sound h (fun b hb => ⟨h.okLt b hb, h.okLow b hb⟩) _ m m' ns x e hv fun nm hn e' b d he hR => ?_
    obtain ⟨B, d', hE⟩ := h.ents nm e' he
    have := Option.some.inj (hR.symm.trans hE.at_); cases this
    exact ⟨hE.lt, .inr (hE.base.resolve_right (freeze_gen _ _ _ _ _ e nm hn e' he))⟩

theorem outsOf_sound {st : St} {a : Act} {w : World} {ok : Nat → Prop} {R : Nat → Nat → Option (Nat × Nat)} {lim : Nat → Prop} (h : SR G st a w ok R lim) (hp : G.ios.Pairwise fun x y => x.p < y.p) : ∀ (l : List IOw) (outs : List (List MV)), (∀ y ∈ l, y ∈ G.ios) → outsOf st (l.map (·.p)) = some outs →
    All2 (OutR w (okA G.w0 G.ok0 w)) l outs
  | [], outs, _, e => by simp [outsOf] at e; subst e; exact .nil
  | y :: l, outs, hl, e => by
    simp only [List.map_cons, outsOf] at e
    split at e
    · rename_i en o h1 h2
      split at e
      · rename_i hh
        cases e
        refine .cons ?_ (outsOf_sound h hp l o (fun z hz => hl z (by simp [hz])) h2)
        obtain ⟨B, d, hE⟩ := h.ents _ en h1
        obtain ⟨_, x, hx, hxp, hxB, hxd, hxn⟩ := hE.io hh.1
        have hxy : x = y := by
          have e1 := R0_find hp x hx
          have e2 := R0_find hp y (hl y (by simp))
          rw [hxp] at e1
          exact Option.some.inj (e1.symm.trans e2)
        subst hxy
        obtain ⟨c, el, vs, b1, b2, b3, _⟩ := hE.body
        refine ⟨hxn.symm, c, el, vs, by rw [hxB]; exact b1, ?_, by rw [hxd]; exact b3⟩
        exact VRs.mono (Ext.refl _ _) (fun b hb => ⟨h.okLt b hb, h.okLow b hb⟩) (fun _ _ _ h => h) _ _ (bare_sound hh.2.2 b2)
      · cases e
    · cases e

/-- THE THEOREM: a body's evaluation is its call's contract. -/
theorem body_sound (hm : P.follows .mixedOrders = true) (hn : ∀ fn ∈ P.funcs, (fn.name == "runtime.NumGoroutine") = false) (hT : TabOK P T) {k : Nat} {io : List Nat} {f : FuncId} {args : List MV} {res : MV} {outs : List (List MV)} (e : evalBody P T k io f args = some (res, outs)) :
    CallOK P io f args res outs := by
  unfold evalBody at e
  split at e
  · cases e
  · rename_i fn hfn
    split at e
    · rename_i c sl hb hsl
      refine ⟨⟨fn, hfn, hn fn (Array.mem_of_getElem? hfn), by rw [hb]; rfl⟩, fun w ok vs ios hG hok ha => ?_⟩
      have hp := (ArgsR.places ha)
      have hlen := ArgsR.length ha
      have hst := start_SR (P := P) hG hok ha hsl (fn.ntmps - args.length)
      refine calls_of_wp hfn hb ?_
      have hsz : fn.ntmps - (⟨vs⟩ : Array Value).size = fn.ntmps - args.length := by simp [hlen]
      rw [hsz]
      have fin : ∀ (st : St), (match resOf P st fn.results.toList, outsOf st ((List.range' 0 args.length).filter fun i => io.contains i) with
          | some [v], some o => some (v, o)
          | some vs, some o => some (.tup vs, o)
          | _, _ => none) = some (res, outs) → ∀ a w', SRx ⟨w, ok, ios⟩ st a w' →
          a.defers = [] ∧ ∃ v, (results fn a.tmps).run P w' = .ok v w' ∧ ∃ x, (Ending.returned v) = .returned x ∧ CallPost w ok ios res outs x w' := by
        intro st hr a w' ⟨_, ok', R, h⟩
        have hout : ∀ o, outsOf st ((List.range' 0 args.length).filter fun i => io.contains i) = some o → All2 (OutR w' (okA w ok w')) ios o := by
          intro o ho
          rw [← hp.1] at ho
          exact outsOf_sound h hp.2.2 ios o (fun _ hy => hy) ho
        have post : ∀ (m : MV) (o : List (List MV)) (x : Value), VR w' (okA w ok w') noR m x → All2 (OutR w' (okA w ok w')) ios o → CallPost w ok ios m o x w' := by
          intro m o x hv ho
          exact ⟨h.os, h.tape, h.output, h.size, h.low, h.ioK, hv, ho⟩
        have hmap : ∀ xs, (fn.results.toList.mapM (resVar a.tmps)).run P w' = .ok xs w' →
            (results fn a.tmps).run P w' = .ok (if h : xs.toArray.size = 1 then xs.toArray[0] else .tuple xs.toArray) w' := by
          intro xs hx
          rw [results_eq, Array.mapM_eq_mapM_toList (m := Sem), Sem.run_bind']
          simp only [Sem.run_map, hx, Result.andThen_ok, Sem.run_pure]
        refine ⟨h.defers, ?_⟩
        split at hr
        · rename_i v o h1 h2
          cases hr
          obtain ⟨xs, hxs, hv⟩ := resOf_sound h _ _ h1
          obtain ⟨x, xt, rfl, hx1, hx2⟩ := hv
          cases hx2
          exact ⟨x, hmap _ hxs, x, rfl, post _ _ _ hx1 (hout _ h2)⟩
        · rename_i vs' o hne h1 h2
          cases hr
          obtain ⟨xs, hxs, hv⟩ := resOf_sound h _ _ h1
          have hl := hv.length
          have hl1 : xs.toArray.size ≠ 1 := by
            intro hl2
            simp at hl2
            rw [hl2] at hl
            obtain ⟨v, rfl⟩ := List.length_eq_one_iff.1 hl.symm
            exact hne v rfl
          have := hmap _ hxs
          rw [dif_neg hl1] at this
          exact ⟨_, this, _, rfl, post _ _ _ ⟨xs, rfl, hv⟩ (hout _ h2)⟩
        · cases hr
      split at e
      · rename_i st hc
        exact code_sound hm hT hG k c _ .normal st _ w _ hc ⟨by simp, ok, R0 ios, hst⟩ fun a' w' h' => fin st e a' w' h'
      · rename_i st hc
        exact code_sound hm hT hG k c _ .ret st _ w _ hc ⟨by simp, ok, R0 ios, hst⟩ fun a' w' h' => fin st e a' w' h'
      · cases e
    · cases e

/-- A table, and beyond it what bodies tell, so many calls deep. -/
def Tab.deep (P : Program) (T : Tab) (k : Nat) : Nat → Tab
  | 0 => T
  | n + 1 => { T with call := fun f args => match T.call f args with | some r => some r | none => evalBody P (Tab.deep P T k n) k (T.io f) f args }
theorem Tab.deep_io (T : Tab) (k n : Nat) : (T.deep P k n).io = T.io := by cases n <;> rfl
theorem Tab.deep_ok (hm : P.follows .mixedOrders = true) (hn : ∀ fn ∈ P.funcs, (fn.name == "runtime.NumGoroutine") = false) (hT : TabOK P T) (k : Nat) : ∀ n, TabOK P (T.deep P k n)
  | 0 => hT
  | n + 1 => by
    intro f args res outs e
    simp only [Tab.deep] at e
    rw [Tab.deep_io]
    split at e
    · rename_i r hr
      cases e
      exact hT f args _ _ hr
    · exact body_sound hm hn (Tab.deep_ok hm hn hT k n) e
end Go.Proofs.Ytkeelkeoijemiaa.Ev
