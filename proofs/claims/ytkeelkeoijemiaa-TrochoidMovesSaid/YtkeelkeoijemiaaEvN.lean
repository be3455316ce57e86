/- Code, bodies, tables: the theorem. -/
import Derived.Test.YtkeelkeoijemiaaEvM
import Derived.Deep.LoopGhost
namespace Go.Proofs.Ytkeelkeoijemiaa.Ev
open Go Go.RowKit

variable {P : Program} {T : Tab} {G : Gh}

/-- Between regions. -/
def SRx (G : Gh) (st : St) (a : Act) (w : World) : Prop := st.ck ≠ 0 ∧ ∃ ok R, SR G st a w ok R (fun g => g < st.ck)

theorem SR.ck {st : St} {a : Act} {w : World} {ok : Nat → Prop} {R : Nat → Nat → Option (Nat × Nat)} {lim : Nat → Prop} (h : SR G st a w ok R lim) (c : Nat) : SR G { st with ck := c } a w ok R lim := { h with slots := h.slots, ents := h.ents, apart := h.apart }

theorem region_sound (hm : P.follows .mixedOrders = true) (hT : TabOK P T) (hG : G.ok) {Q : Exit → Act → World → Prop} {id : Nat} {ops : Array Oper} {draw : Bool} {st st' : St} {a : Act} {w : World} (e : evalRegion P T ops draw st = some st') (h : SRx G st a w)
    (hQ : ∀ a' w', SRx G st' a' w' → Q .normal a' w') : (Code.region id ops draw).wp P Q a w := by
  obtain ⟨hck, ok, R, h⟩ := h
  have fin : ∀ s, st' = { s with ck := st.ck + ops.size } → ∀ a' w' ok' R', SR G s a' w' ok' R' (limAt st.ck ops.toList.length) → Q .normal a' w' := by
    intro s hs a' w' ok' R' h'
    subst hs
    refine hQ a' w' ⟨by simp; omega, ok', R', (h'.ck _).weaken fun x hx => ?_⟩
    rcases hx with hx | ⟨j, h1, h2⟩
    · simp; omega
    · simp at h1 ⊢; omega
  unfold evalRegion at e
  split at e
  · rename_i s hs
    cases e
    cases draw with
    | false =>
      simp only [Bool.false_eq_true, if_false] at hs
      refine wp_region ?_
      have := evalOps_sound (ops := ops.toList) hck hT hG (Q := Q) ops.toList 0 st s a w ok R (fun k => by simp) (by simp) hs (h.weaken fun x hx => .inl hx) (fin s rfl)
      simpa [List.range_eq_range'] using this
    | true =>
      simp only [if_true] at hs
      split at hs
      · rename_i s2 log hlog
        split at hs
        · rename_i hd
          cases hs
          simp only [drawOk, Bool.and_eq_true, List.all_eq_true] at hd
          obtain ⟨hed, hpr⟩ := hd
          obtain ⟨hb1, _, hb3⟩ := befs_spec ops.toList []
          simp only [List.length_nil, Nat.zero_add] at hb1 hb3
          obtain ⟨hl, hruns⟩ := evalLog_runs (P := P) (T := T) (ops := ops.toList) (ck := st.ck) ops.toList 0 (befs [] ops.toList) st s log hb1 hlog
          have hil := items_len ops.toList log (befs [] ops.toList) 0 hl hb1
          obtain ⟨hso, _⟩ := items_sorted ops.toList log (befs [] ops.toList) 0
          have hget : ∀ t ∈ items 0 ops.toList log (befs [] ops.toList), ops.toList[t.i]? = some t.o ∧ (befs [] ops.toList)[t.i]? = some t.b := by
            intro t ht
            obtain ⟨k, hk⟩ := List.mem_iff_getElem?.1 ht
            have hkl : k < ops.toList.length := by
              rw [← hil]; exact (List.getElem?_eq_some_iff.1 hk).1
            obtain ⟨o, l, b, e1, e2, e3⟩ := items_get ops.toList log (befs [] ops.toList) 0 k hl hb1 hkl
            rw [hk] at e3; cases e3
            simp only [Nat.zero_add]
            exact ⟨e1, e2⟩
          refine wp_region_any hm ?_
          have hd1 := h.drew
          have hdr : ({ w with drawn := w.drawn + 1 } : World) = w.drew := rfl
          rw [hdr]
          have hidx : ∀ i o, ops.toList[i]? = some o → ∃ t ∈ items 0 ops.toList log (befs [] ops.toList), t.i = i := by
            intro i o hi
            obtain ⟨o', l, b, _, _, e3⟩ := items_get ops.toList log (befs [] ops.toList) 0 i hl hb1 (List.getElem?_eq_some_iff.1 hi).1
            exact ⟨_, List.mem_of_getElem? e3, by simp⟩
          have hf0 : (items 0 ops.toList log (befs [] ops.toList)).filter (fun t => !(Array.replicate ops.size false).getD t.i true) = items 0 ops.toList log (befs [] ops.toList) := by
            apply List.filter_eq_self.2
            intro t ht
            have := (List.getElem?_eq_some_iff.1 (hget t ht).1).1
            simp at this
            simp [Array.getD, this]
          have := draws_any (P := P) (T := T) (G := G) (ops := ops.toList) (ck := st.ck) (Q := Q) hck hT hG (sF := s) hso (fun t ht => (hget t ht).1) hidx (fun x hx y hy => hpr y hy x hx)
            (fun t ht e he hb => by have := edgesOk_spec ops.toList 0 t.i t.o hed (hget t ht).1 e he hb; omega)
            (fun t ht j hj => by
              obtain ⟨acc', e1, e2⟩ := hb3 t.i t.o (hget t ht).1
              rw [(hget t ht).2] at e1
              simp only [Option.some.injEq] at e1
              rw [e1] at hj
              obtain ⟨e, he, hb, hor⟩ := befEdges_bit _ hj
              refine ⟨e, he, hb, hor.imp (fun h => h) fun hbit => ?_⟩
              have hlt := edgesOk_spec ops.toList 0 t.i t.o hed (hget t ht).1 e he hb
              have hti := (List.getElem?_eq_some_iff.1 (hget t ht).1).1
              have heq := e2 e.on (by omega)
              obtain ⟨u, hu, hui⟩ := hidx e.on _ (List.getElem?_eq_getElem (by omega))
              refine ⟨u, hu, hui, ?_⟩
              have hub := (hget u hu).2
              rw [hui, ← heq] at hub
              rw [List.getD_eq_getElem?_getD, hub] at hbit
              simpa using hbit)
            (fin s rfl) ops.size (Array.replicate ops.size false) st a w.drew ok R (by simp) (by rw [hf0, hil]; simp) (fun t _ ht => by
              exfalso
              simp only [Array.getD_eq_getD_getElem?, Array.getElem?_replicate] at ht
              split at ht <;> simp at ht) (by rw [hf0]; exact hruns) (hd1.weaken fun x hx => .inl hx)
          simpa using this
        · cases hs
      · cases hs
  · cases e

theorem dropEn_some (w used : List Nat) : ∀ (en : List (Option Ent)) (i n : Nat) (e : Ent), (dropEn w used i en).getD n none = some e → en.getD n none = some e
  | [], _, _, _, h => by simp [dropEn] at h
  | x :: es, i, 0, e, h => by
    simp only [dropEn, List.getD_cons_zero] at h ⊢
    split at h
    · cases h
    · exact h
  | x :: es, i, n + 1, e, h => by
    simp only [dropEn, List.getD_cons_succ] at h ⊢
    exact dropEn_some w used es (i + 1) n e h

def gen1 (g : Nat) : Nat := if g = 0 then 0 else 1
/-- Where names lie behind a normalisation. -/
def normR (en : Nat → Option Ent) (R : Nat → Nat → Option (Nat × Nat)) : Nat → Nat → Option (Nat × Nat) := fun n g => match en n with
  | some e => if g = gen1 e.gen then R n e.gen else none
  | none => none

mutual
theorem norm1_sound {w : World} {ok : Nat → Prop} {R : Nat → Nat → Option (Nat × Nat)} {en : Nat → Option Ent} : ∀ (m : MV) (x : Value), VR w ok R m x → VR w ok (normR en R) (norm1 en m) x
  | .sc _, _, h => h
  | .agg cs, _, ⟨vs, e, h⟩ => ⟨vs, e, norms_sound cs vs h⟩
  | .tup cs, _, ⟨vs, e, h⟩ => ⟨vs, e, norms_sound cs vs h⟩
  | .fn _ cs, _, ⟨vs, e, h⟩ => ⟨vs, e, norms_sound cs vs h⟩
  | .fs _ _ _, _, h => h
  | .cp _, _, h => h
  | .any, _, _ => trivial
  | .ptr nm g off, x, ⟨B, d, h1, h2⟩ => by
    simp only [norm1]
    split
    · rename_i e he
      split
      · rename_i hg
        refine ⟨B, d, ?_, h2⟩
        simp only [normR, he]
        rw [hg]; show (if gen1 g = gen1 g then R nm g else none) = _; rw [if_pos rfl]; exact h1
      · trivial
    · trivial
  | .row nm g off len cap sz, x, ⟨B, d, c, h1, h2, h3, h4, h5⟩ => by
    simp only [norm1]
    split
    · rename_i e he
      split
      · rename_i hg
        refine ⟨B, d, c, ?_, h2, h3, h4, fun h => h5 fun h0 => ?_⟩
        · simp only [normR, he]
          rw [hg]; show (if gen1 g = gen1 g then R nm g else none) = _; rw [if_pos rfl]; exact h1
        · rw [h0] at h; simp at h
      · trivial
    · trivial
theorem norms_sound {w : World} {ok : Nat → Prop} {R : Nat → Nat → Option (Nat × Nat)} {en : Nat → Option Ent} : ∀ (ms : List MV) (vs : List Value), VRs w ok R ms vs → VRs w ok (normR en R) (norms en ms) vs
  | [], _, h => h
  | m :: ms, _, ⟨v, vt, e, h, hs⟩ => ⟨v, vt, e, norm1_sound m v h, norms_sound ms vt hs⟩
end
theorem norms_len (en : Nat → Option Ent) : ∀ ms : List MV, (norms en ms).length = ms.length
  | [] => rfl
  | m :: ms => by simp [norms, norms_len en ms]
theorem wipe_sound {w : World} {ok : Nat → Prop} {R : Nat → Nat → Option (Nat × Nat)} (l : List Nat) : ∀ (ms : List MV) (i : Nat) (vs : List Value), VRs w ok R ms vs → VRs w ok R (wipe l i ms) vs
  | [], _, _, h => h
  | m :: ms, i, _, ⟨v, vt, e, h, hs⟩ => by
    refine ⟨v, vt, e, ?_, wipe_sound l ms (i + 1) vt hs⟩
    split
    · trivial
    · exact h

theorem norm_sound {st : St} {a : Act} {w : World} (l : List Nat) (h : SRx G st a w) : SRx G (normSt l st) a w := by
  obtain ⟨_, ok, R, h⟩ := h
  refine ⟨by simp [normSt], ok, normR (fun n => (dropEn l (namesInL (wipe l 0 st.sl) ++ namesInL ((dropEn l [] 0 st.en).flatMap fun | some e => e.cells | none => []) ++ (namesInL (wipe l 0 st.sl) ++ namesInL ((dropEn l [] 0 st.en).flatMap fun | some e => e.cells | none => [])).flatMap (entNames st.en)) 0 st.en).getD n none) R, ?_⟩
  have hen : (normSt l st).en = (dropEn l (namesInL (wipe l 0 st.sl) ++ namesInL ((dropEn l [] 0 st.en).flatMap fun | some e => e.cells | none => []) ++ (namesInL (wipe l 0 st.sl) ++ namesInL ((dropEn l [] 0 st.en).flatMap fun | some e => e.cells | none => [])).flatMap (entNames st.en)) 0 st.en).map
      (fun | some e => some { gen := if e.gen = 0 then 0 else 1, cells := norms (fun n => (dropEn l (namesInL (wipe l 0 st.sl) ++ namesInL ((dropEn l [] 0 st.en).flatMap fun | some e => e.cells | none => []) ++ (namesInL (wipe l 0 st.sl) ++ namesInL ((dropEn l [] 0 st.en).flatMap fun | some e => e.cells | none => [])).flatMap (entNames st.en)) 0 st.en).getD n none) e.cells, frozen := e.frozen } | none => none) := rfl
  have hsl : (normSt l st).sl = norms (fun n => (dropEn l (namesInL (wipe l 0 st.sl) ++ namesInL ((dropEn l [] 0 st.en).flatMap fun | some e => e.cells | none => []) ++ (namesInL (wipe l 0 st.sl) ++ namesInL ((dropEn l [] 0 st.en).flatMap fun | some e => e.cells | none => [])).flatMap (entNames st.en)) 0 st.en).getD n none) (wipe l 0 st.sl) := rfl
  have hck : (normSt l st).ck = 2 := rfl
  have hdrop : ∀ n e, (dropEn l (namesInL (wipe l 0 st.sl) ++ namesInL ((dropEn l [] 0 st.en).flatMap fun | some e => e.cells | none => []) ++ (namesInL (wipe l 0 st.sl) ++ namesInL ((dropEn l [] 0 st.en).flatMap fun | some e => e.cells | none => [])).flatMap (entNames st.en)) 0 st.en).getD n none = some e → st.ent n = some e :=
    fun n e he => dropEn_some l _ st.en 0 n e he
  generalize hD : dropEn l (namesInL (wipe l 0 st.sl) ++ namesInL ((dropEn l [] 0 st.en).flatMap fun | some e => e.cells | none => []) ++ (namesInL (wipe l 0 st.sl) ++ namesInL ((dropEn l [] 0 st.en).flatMap fun | some e => e.cells | none => [])).flatMap (entNames st.en)) 0 st.en = D at hen hsl hdrop ⊢
  have ent : ∀ n x, (normSt l st).ent n = some x → ∃ e, D.getD n none = some e ∧ x.gen = gen1 e.gen ∧ x.cells = norms (fun n => D.getD n none) e.cells ∧ x.frozen = e.frozen := by
    intro n x hx
    unfold St.ent at hx
    rw [hen] at hx
    simp only [List.getD_eq_getElem?_getD, List.getElem?_map] at hx
    cases hd : D[n]? with
    | none => rw [hd] at hx; simp at hx
    | some q =>
      rw [hd] at hx
      cases q with
      | none => simp at hx
      | some e =>
        simp only [Option.map_some, Option.getD_some, Option.some.injEq] at hx
        subst hx
        exact ⟨e, by simp [List.getD_eq_getElem?_getD, hd], rfl, rfl, rfl⟩
  have atN : ∀ n e, D.getD n none = some e → normR (fun n => D.getD n none) R n (gen1 e.gen) = R n e.gen := by
    intro n e he
    simp only [normR, he, if_true]
  refine { h with ents := ?_, apart := ?_, slots := ?_, fresh := ?_ }
  · intro n x hx
    obtain ⟨e, he, hg, hc, hf⟩ := ent n x hx
    obtain ⟨B, d, hE⟩ := h.ents n e (hdrop n e he)
    obtain ⟨c, el, vs, h1, h2, h3, h4⟩ := hE.body
    refine ⟨B, d, by rw [hg, atN n e he]; exact hE.at_, ⟨c, el, vs, h1, by rw [hc]; exact norms_sound _ _ h2, h3, h4⟩, by rw [hf]; exact hE.fro, by rw [hf]; exact hE.own, ?_, ?_⟩
    · rw [hg]
      refine hE.base.imp (fun h => h) fun h0 => ?_
      simp [gen1, h0]
    · intro h0
      rw [hg] at h0
      have h1 : e.gen = 0 := by
        unfold gen1 at h0
        split at h0
        · assumption
        · cases h0
      obtain ⟨k1, k2⟩ := hE.io h1
      rw [hf, hc, norms_len]
      exact ⟨k1, k2⟩
  · intro n n' x x' p p' hne hx hx' hp hp' hfx
    obtain ⟨e, he, hg, _, hf⟩ := ent n x hx
    obtain ⟨e', he', hg', _, _⟩ := ent n' x' hx'
    rw [hg, atN n e he] at hp
    rw [hg', atN n' e' he'] at hp'
    exact h.apart n n' e e' p p' hne (hdrop n e he) (hdrop n' e' he') hp hp' (by rw [← hf]; exact hfx)
  · rw [hsl]
    exact norms_sound _ _ (wipe_sound l _ 0 _ h.slots)
  · intro n g hg
    rw [hck]
    unfold normR at hg
    split at hg
    · split at hg
      · rename_i e _ hgg
        subst hgg
        unfold gen1
        split <;> omega
      · exact absurd rfl hg
    · exact absurd rfl hg

def exitOf : Out → Exit
  | .normal => .normal
  | .exit id => .exit id
  | .ret => .ret

/-- What a piece of code does, by its evaluation. -/
def CodeOK (P : Program) (G : Gh) (c : Code) (f : St → Option (Out × St)) : Prop :=
  ∀ st out st' a w (Q : Exit → Act → World → Prop), f st = some (out, st') → SRx G st a w → (∀ a' w', SRx G st' a' w' → Q (exitOf out) a' w') → c.wp P Q a w

theorem loop_sound {c : Code} {f : St → Option (Out × St)} (hc : CodeOK P G c f) (n : Nat) : CodeOK P G (.loop c) (evalLoop f n) := by
  intro st out st' a w Q e h hQ
  refine wp_loop_ghost (fun m a w => ∃ s, evalLoop f m s = some (out, st') ∧ SRx G s a w) n ⟨st, e, h⟩ ?_
  rintro m a w ⟨s, hs, h⟩
  cases m with
  | zero => simp [evalLoop] at hs
  | succ m =>
    simp only [evalLoop] at hs
    split at hs
    · rename_i s1 h1
      exact hc s .normal s1 a w _ h1 h fun a' w' h' => ⟨m, Nat.lt_succ_self m, s1, hs, h'⟩
    · rename_i hne
      refine hc s out st' a w _ hs h fun a' w' h' => ?_
      cases out with
      | normal => exact absurd hs (hne st')
      | exit id => exact hQ a' w' h'
      | ret => exact hQ a' w' h'

theorem code_sound (hm : P.follows .mixedOrders = true) (hT : TabOK P T) (hG : G.ok) (k : Nat) : ∀ (c : Code), CodeOK P G c (evalCode P T k c)
  | .skip => by
    intro st out st' a w Q e h hQ
    simp only [evalCode, Option.some.injEq, Prod.mk.injEq] at e
    obtain ⟨rfl, rfl⟩ := e
    exact wp_skip (hQ a w h)
  | .region id ops draw => by
    intro st out st' a w Q e h hQ
    simp only [evalCode, Option.map_eq_some_iff] at e
    obtain ⟨s, hs, e⟩ := e
    cases e
    exact region_sound hm hT hG hs h hQ
  | .seq x y => by
    intro st out st' a w Q e h hQ
    simp only [evalCode] at e
    refine wp_seq ?_
    split at e
    · rename_i s hs
      exact code_sound hm hT hG k x st .normal s a w _ hs h fun a' w' h' => code_sound hm hT hG k y s out st' a' w' Q e h' hQ
    · rename_i hne
      refine code_sound hm hT hG k x st out st' a w _ e h fun a' w' h' => ?_
      cases out with
      | normal => exact absurd e (hne st')
      | exit id => exact hQ a' w' h'
      | ret => exact hQ a' w' h'
  | .cond c x y => by
    intro st out st' a w Q e h hQ
    obtain ⟨hck, ok, R, hs⟩ := h
    have hc := hs.ev c
    simp only [evalCode] at e
    split at e
    · rename_i t ht
      rw [ht] at hc
      refine wp_cond (t := t) hc ?_
      cases t with
      | true => exact code_sound hm hT hG k x st out st' a w Q e ⟨hck, ok, R, hs⟩ hQ
      | false => exact code_sound hm hT hG k y st out st' a w Q e ⟨hck, ok, R, hs⟩ hQ
    · cases e
  | .block id c => by
    intro st out st' a w Q e h hQ
    simp only [evalCode] at e
    refine wp_block ?_
    split at e
    · rename_i i s hs
      refine code_sound hm hT hG k c st (.exit i) s a w _ hs h fun a' w' h' => ?_
      show if i = id then Q .normal a' w' else Q (.exit i) a' w'
      split at e
      · rename_i hi
        cases e
        rw [if_pos hi]; exact hQ a' w' h'
      · rename_i hi
        cases e
        rw [if_neg hi]; exact hQ a' w' h'
    · rename_i hne
      refine code_sound hm hT hG k c st out st' a w _ e h fun a' w' h' => ?_
      cases out with
      | normal => exact hQ a' w' h'
      | exit i => exact absurd e (hne i st')
      | ret => exact hQ a' w' h'
  | .loop c => by
    have h1 : CodeOK P G c (fun s => evalCode P T k c (normSt (scratch1 c) s)) := fun st out st' a w Q e h hQ => code_sound hm hT hG k c _ out st' a w Q e (norm_sound _ h) hQ
    simpa only [evalCode] using loop_sound h1 k
  | .exit id => by
    intro st out st' a w Q e h hQ
    simp only [evalCode, Option.some.injEq, Prod.mk.injEq] at e
    obtain ⟨rfl, rfl⟩ := e
    exact wp_exit (hQ a w h)
  | .ret => by
    intro st out st' a w Q e h hQ
    simp only [evalCode, Option.some.injEq, Prod.mk.injEq] at e
    obtain ⟨rfl, rfl⟩ := e
    exact wp_ret (hQ a w h)
  | .rangeFunc .. => by intro st out st' a w Q e; simp [evalCode] at e
  | .scope _ => by intro st out st' a w Q e; simp [evalCode] at e
  | .label _ => by intro st out st' a w Q e; simp [evalCode] at e
  | .goto _ => by intro st out st' a w Q e; simp [evalCode] at e
  | .refuse _ => by intro st out st' a w Q e; simp [evalCode] at e
end Go.Proofs.Ytkeelkeoijemiaa.Ev
