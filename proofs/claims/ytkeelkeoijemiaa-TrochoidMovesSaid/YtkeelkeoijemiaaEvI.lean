/- Calls: by a table that tells what functions do. -/
import Derived.Test.YtkeelkeoijemiaaEvH
namespace Go.Proofs.Ytkeelkeoijemiaa.Ev
open Go Go.RowKit

variable {P : Program} {T : Tab} {G : Gh} {st : St} {a : Act} {w : World} {ok : Nat → Prop} {R : Nat → Nat → Option (Nat × Nat)} {lim : Nat → Prop} {o : Oper} {g : Nat} {r : Res}

def enters (P : Program) (f : FuncId) : Prop := ∃ fn, P.funcs[f]? = some fn ∧ (fn.name == "runtime.NumGoroutine") = false ∧ fn.body.isNone = false

/-- An argument that is written to. -/
def IOR (w : World) (ok : Nat → Prop) (i : Nat) (m : MV) (x : Value) (y : IOw) : Prop :=
  y.p = i ∧ ∃ len c cs el cells vs, m = .fs len none cs ∧ x = .slice (some ⟨y.B, y.d, none⟩) len c ∧ len ≤ c ∧ y.n = cs.length ∧ w.heap[y.B]? = some (.cells cells el (0, 0)) ∧ VRs w ok noR cs vs ∧
    (∀ j, j < vs.length → cells[y.d + j]? = vs[j]?) ∧ (vs = [] ∨ y.d + vs.length ≤ cells.size)

def ArgsR (w : World) (ok : Nat → Prop) (io : List Nat) : Nat → List MV → List Value → List IOw → Prop
  | _, [], vs, ios => vs = [] ∧ ios = []
  | i, m :: ms, vs, ios => ∃ v vt, vs = v :: vt ∧ if io.contains i then ∃ y ys, ios = y :: ys ∧ IOR w ok i m v y ∧ ArgsR w ok io (i + 1) ms vt ys else VR w ok noR m v ∧ ArgsR w ok io (i + 1) ms vt ios

def okA (w : World) (ok : Nat → Prop) (w' : World) : Nat → Prop := fun b => b < w'.heap.size ∧ (ok b ∨ w.heap.size ≤ b)

def OutR (w' : World) (ok : Nat → Prop) (y : IOw) (out : List MV) : Prop :=
  out.length = y.n ∧ ∃ c el vs, w'.heap[y.B]? = some (.cells c el (0, 0)) ∧ VRs w' ok noR out vs ∧ (∀ j, j < vs.length → c[y.d + j]? = vs[j]?)

structure CallPost (w : World) (ok : Nat → Prop) (ios : List IOw) (res : MV) (outs : List (List MV)) (x : Value) (w' : World) : Prop where
  os : w'.os = w.os
  tape : w'.tape = w.tape
  output : w'.output = w.output
  size : w.heap.size ≤ w'.heap.size
  low : ∀ k, k < w.heap.size → (∀ y ∈ ios, y.B ≠ k) → w'.heap[k]? = w.heap[k]?
  ioK : ∀ y ∈ ios, ∃ c c0 el fr, w.heap[y.B]? = some (.cells c0 el fr) ∧ w'.heap[y.B]? = some (.cells c el fr) ∧ c.size = c0.size ∧ ∀ i, (i < y.d ∨ y.d + y.n ≤ i) → c[i]? = c0[i]?
  res : VR w' (okA w ok w') noR res x
  outs : All2 (OutR w' (okA w ok w')) ios outs

def CallOK (P : Program) (io : List Nat) (f : FuncId) (args : List MV) (res : MV) (outs : List (List MV)) : Prop :=
  enters P f ∧ ∀ (w : World) (ok : Nat → Prop) (vs : List Value) (ios : List IOw), Gh.ok ⟨w, ok, ios⟩ → (∀ b, ok b → b < w.heap.size) → ArgsR w ok io 0 args vs ios →
    Calls P f ⟨vs⟩ w fun e w' => ∃ x, e = .returned x ∧ CallPost w ok ios res outs x w'

def TabOK (P : Program) (T : Tab) : Prop := ∀ f args res outs, T.call f args = some (res, outs) → CallOK P (T.io f) f args res outs

mutual
theorem bare_sound1 : ∀ (k : Nat) (m m' : MV) (ns : List Nat) (x : Value), freeze (fun _ => none) k m = some (m', ns) → VR w ok R m x → VR w ok noR m x
  | 0, _, _, _, _, e, _ => by simp [freeze] at e
  | k + 1, .sc v, _, _, x, _, hv => hv
  | k + 1, .fs n c cs, _, _, x, _, hv => hv
  | k + 1, .cp cs, _, _, x, _, hv => hv
  | k + 1, .agg cs, m', ns, x, e, ⟨vs, hx, hv⟩ => by
    simp only [freeze, Option.map_eq_some_iff] at e
    obtain ⟨⟨y, z⟩, h1, _⟩ := e
    exact ⟨vs, hx, bare_sounds k cs y z vs h1 hv⟩
  | k + 1, .tup cs, m', ns, x, e, ⟨vs, hx, hv⟩ => by
    simp only [freeze, Option.map_eq_some_iff] at e
    obtain ⟨⟨y, z⟩, h1, _⟩ := e
    exact ⟨vs, hx, bare_sounds k cs y z vs h1 hv⟩
  | k + 1, .fn f cs, m', ns, x, e, ⟨vs, hx, hv⟩ => by
    simp only [freeze, Option.map_eq_some_iff] at e
    obtain ⟨⟨y, z⟩, h1, _⟩ := e
    exact ⟨vs, hx, bare_sounds k cs y z vs h1 hv⟩
  | k + 1, .any, _, _, _, e, _ => by simp [freeze] at e
  | k + 1, .ptr _ _ _, _, _, _, e, _ => by simp [freeze] at e
  | k + 1, .row _ _ _ _ _ _, _, _, _, e, _ => by simp [freeze] at e
theorem bare_sounds : ∀ (k : Nat) (ms ms' : List MV) (ns : List Nat) (vs : List Value), freezes (fun _ => none) k ms = some (ms', ns) → VRs w ok R ms vs → VRs w ok noR ms vs
  | 0, _, _, _, _, e, _ => by simp [freezes] at e
  | k + 1, [], _, _, vs, _, hv => hv
  | k + 1, m :: ms, ms', ns, vs, e, ⟨v, vt, hx, hv, hvs⟩ => by
    simp only [freezes] at e
    split at e
    · rename_i x y h1 h2
      exact ⟨v, vt, hx, bare_sound1 k m x.1 x.2 v h1 hv, bare_sounds k ms y.1 y.2 vt h2 hvs⟩
    · cases e
end
theorem bare_sound {ms : List MV} {vs : List Value} (h : bare ms = true) (hv : VRs w ok R ms vs) : VRs w ok noR ms vs := by
  unfold bare at h
  split at h
  · rename_i y hy; exact bare_sounds _ _ _ _ _ hy hv
  · cases h

def Link (st : St) (R : Nat → Nat → Option (Nat × Nat)) (t : Nat × Nat × Nat) (y : IOw) : Prop :=
  ∃ e d, st.ent t.1 = some e ∧ e.frozen = false ∧ R t.1 e.gen = some (y.B, d) ∧ y.d = d + t.2.1 ∧ y.n = t.2.2 ∧ t.2.1 + t.2.2 ≤ e.cells.length

theorem prep_sound (h : SR G st a w ok R lim) {io : List Nat} {ok' : Nat → Prop} (up : ∀ b, ok b → ok' b) : ∀ (ms : List MV) (vs : List Value) (i : Nat) (as : List MV) (fz : List Nat) (ioL : List (Nat × Nat × Nat)),
    prepArgs st.ent io i ms = some (as, fz, ioL) → VRs w ok R ms vs → (∀ nm ∈ fz, ∀ e b d, st.ent nm = some e → R nm e.gen = some (b, d) → ok' b) →
    ∃ ios, ArgsR w ok' io i as vs ios ∧ All2 (Link st R) ioL ios
  | [], vs, i, as, fz, ioL, e, hv, _ => by
    simp [prepArgs] at e; obtain ⟨rfl, rfl, rfl⟩ := e
    cases hv
    exact ⟨[], ⟨rfl, rfl⟩, .nil⟩
  | m :: ms, vs, i, as, fz, ioL, e, ⟨v, vt, hx, hm, hms⟩, hb => by
    subst hx
    simp only [prepArgs] at e
    split at e
    · cases e
    · rename_i as1 fz1 io1 h1
      split at e
      · rename_i hio
        split at e
        · rename_i nm g' off len cap sz
          split at e
          · rename_i en he
            split at e
            · rename_i hh
              cases e
              obtain ⟨hgen, hfr, hle, hbare⟩ := hh
              obtain ⟨ios, h2, h3⟩ := prep_sound h up ms vt (i + 1) as1 fz io1 h1 hms hb
              obtain ⟨B, d, c, hR, rfl, hlc, _, _⟩ := hm
              obtain ⟨B', d', hE⟩ := h.ents nm en he
              have := Option.some.inj ((hgen ▸ hR).symm.trans hE.at_); cases this
              obtain ⟨c0, el, us, hB, hus, hcv, hsz⟩ := hE.body
              have hul := hus.length
              have hw := bare_sound hbare ((hus.drop off).take (len * sz))
              have hw' := VRs.mono (ok' := ok') (Ext.refl _ _) up (fun _ _ _ h => h) _ _ hw
              have hlw : ((us.drop off).take (len * sz)).length = len * sz := by simp only [List.length_take, List.length_drop]; omega
              refine ⟨⟨i, B, d + off, len * sz⟩ :: ios, ⟨_, vt, rfl, ?_⟩, .cons ⟨en, d, he, hfr, hE.at_, rfl, rfl, hle⟩ h3⟩
              rw [if_pos hio]
              refine ⟨_, ios, rfl, ⟨rfl, len, c, _, el, c0, _, rfl, rfl, hlc, ?_, hB, hw', ?_, ?_⟩, h2⟩
              · simp only [List.length_take, List.length_drop]; omega
              · intro j hj
                rw [hlw] at hj
                rw [List.getElem?_take_of_lt hj, List.getElem?_drop]
                show c0[d + off + j]? = _
                rw [Nat.add_assoc]
                exact hcv _ (by omega)
              · rw [hlw]
                rcases hsz with hsz | hsz
                · left; subst hsz; simp
                · right; show d + off + len * sz ≤ c0.size; omega
            · cases e
          · cases e
        · cases e
      · rename_i hio
        split at e
        · rename_i m' f hf
          cases e
          obtain ⟨ios, h2, h3⟩ := prep_sound h up ms vt (i + 1) as1 fz1 ioL h1 hms fun nm hn => hb nm (by simp [hn])
          refine ⟨ios, ⟨_, vt, rfl, ?_⟩, h3⟩
          rw [if_neg hio]
          exact ⟨freeze_sound h up _ m m' f v hf hm fun nm hn => hb nm (by simp [hn]), h2⟩
        · cases e

theorem prep_gen (en : Nat → Option Ent) {io : List Nat} : ∀ (ms : List MV) (i : Nat) (as : List MV) (fz : List Nat) (ioL : List (Nat × Nat × Nat)),
    prepArgs en io i ms = some (as, fz, ioL) → ∀ nm ∈ fz, ∀ e, en nm = some e → e.gen ≠ 0
  | [], i, as, fz, ioL, e => by simp [prepArgs] at e; obtain ⟨rfl, rfl, rfl⟩ := e; simp
  | m :: ms, i, as, fz, ioL, e => by
    simp only [prepArgs] at e
    split at e
    · cases e
    · rename_i as1 fz1 io1 h1
      split at e
      · split at e
        · split at e
          · split at e
            · cases e; exact prep_gen en ms (i + 1) as1 fz io1 h1
            · cases e
          · cases e
        · cases e
      · split at e
        · rename_i m' f hf
          cases e
          intro nm hn
          rcases List.mem_append.1 hn with hn | hn
          · exact freeze_gen en _ _ _ _ hf nm hn
          · exact prep_gen en ms (i + 1) as1 fz1 _ h1 nm hn
        · cases e

theorem back_mem {w' : World} {ok1 : Nat → Prop} : ∀ (ioL : List (Nat × Nat × Nat)) (ios : List IOw) (outs : List (List MV)) (u : List (Nat × Option Ent)), backRows st.ent ioL outs = some u → All2 (Link st R) ioL ios → All2 (OutR w' ok1) ios outs →
    u.map (·.1) = ioL.map (·.1) ∧ ∀ p ∈ u, ∃ nm off n y out e, p = (nm, some { e with cells := putCells e.cells off out }) ∧ (nm, off, n) ∈ ioL ∧ y ∈ ios ∧ Link st R (nm, off, n) y ∧ OutR w' ok1 y out ∧ st.ent nm = some e ∧ out.length = n
  | [], _, _, u, e, .nil, .nil => by simp [backRows] at e; subst e; simp
  | (nm, off, n) :: ioL, y :: ios, out :: outs, u, e, .cons h1 h2, .cons k1 k2 => by
    simp only [backRows] at e
    split at e
    · rename_i en r he hr
      split at e
      · rename_i hl
        cases e
        obtain ⟨e1, e2⟩ := back_mem ioL ios outs r hr h2 k2
        refine ⟨by simp [e1], fun p hp => ?_⟩
        rcases List.mem_cons.1 hp with rfl | hp
        · exact ⟨nm, off, n, y, out, en, rfl, by simp, by simp, h1, k1, he, hl⟩
        · obtain ⟨nm', off', n', y', out', e', q1, q2, q3, q4⟩ := e2 p hp
          exact ⟨nm', off', n', y', out', e', q1, by simp [q2], by simp [q3], q4⟩
      · cases e
    · cases e

theorem All2.mem_right {α β : Type} {p : α → β → Prop} : ∀ {l : List α} {m : List β}, All2 p l m → ∀ y ∈ m, ∃ x ∈ l, p x y
  | _, _, .nil, y, h => by cases h
  | _, _, .cons h hs, y, hy => by
    rcases List.mem_cons.1 hy with rfl | hy
    · exact ⟨_, by simp, h⟩
    · obtain ⟨x, hx, hp⟩ := hs.mem_right y hy; exact ⟨x, by simp [hx], hp⟩

theorem links_one (h : SR G st a w ok R lim) : ∀ {ioL : List (Nat × Nat × Nat)} {ios : List IOw}, (ioL.map (·.1)).Nodup → All2 (Link st R) ioL ios → ∀ x ∈ ios, ∀ y ∈ ios, x.B = y.B → x = y
  | _, _, _, .nil, x, hx, _, _, _ => by cases hx
  | t :: l, z :: m, hn, .cons hl hs, x, hx, y, hy, he => by
    simp only [List.map_cons, List.nodup_cons] at hn
    have ne : ∀ q ∈ m, z.B ≠ q.B := by
      intro q hq
      obtain ⟨t', ht', hl'⟩ := hs.mem_right q hq
      obtain ⟨e1, d1, a1, a2, a3, _⟩ := hl
      obtain ⟨e2, d2, b1, _, b3, _⟩ := hl'
      exact h.apart t.1 t'.1 e1 e2 _ _ (fun e => hn.1 (e ▸ List.mem_map.2 ⟨t', ht', rfl⟩)) a1 b1 a3 b3 a2
    rcases List.mem_cons.1 hx with rfl | hx1 <;> rcases List.mem_cons.1 hy with rfl | hy1
    · rfl
    · exact absurd he (ne y hy1)
    · exact absurd he.symm (ne x hx1)
    · exact links_one h hn.2 hs x hx1 y hy1 he

theorem setFrz_not {m : Nat} : ∀ (f : List Nat) (en : List (Option Ent)), m ∉ f → (setFrz en f).getD m none = en.getD m none
  | [], en, _ => rfl
  | n :: r, en, hn => by
    simp only [List.mem_cons, not_or] at hn
    simp only [setFrz]
    rw [setFrz_not r _ hn.2]
    unfold frzAt
    split
    · simp only [List.getD_eq_getElem?_getD, List.getElem?_set]
      rw [if_neg (fun e => hn.1 e.symm)]
    · rfl

/-- Behind a call. -/
theorem SR.afterCall (hGG : G.ok) (h : SR G st a w ok R lim) {ioL : List (Nat × Nat × Nat)} {ios : List IOw} {res : MV} {outs : List (List MV)} {x : Value} {w' : World} (hlink : All2 (Link st R) ioL ios)
    (hG : Gh.ok ⟨w, ok, ios⟩) (hp : CallPost w ok ios res outs x w') {u : List (Nat × Option Ent)} (hu : backRows st.ent ioL outs = some u) (dst : Option Tmp) (rd : List Nat) :
    SR G (st.put dst { val := res, upd := u, rd := rd }) (a.put dst x) w' (okA w ok w') R lim := by
  have noRB : ∀ b, ok b → ∀ y ∈ ios, y.B ≠ b := fun b hb y hy e => hG.no y hy (e ▸ hb)
  have hx : Ext ok w w' := by
    refine ⟨fun b hb => hp.low b (h.okLt b hb) (noRB b hb), fun b n ⟨c, el, fr, h1, h2⟩ => ?_⟩
    by_cases hb : ∃ y ∈ ios, y.B = b
    · obtain ⟨y, hy, rfl⟩ := hb
      obtain ⟨c1, c0, el1, fr1, k1, k2, k3, _⟩ := hp.ioK y hy
      rw [h1] at k1; cases k1
      exact ⟨c1, el, fr, k2, by omega⟩
    · exact ⟨c, el, fr, by rw [hp.low b (lt_of_heap h1) fun y hy e => hb ⟨y, hy, e⟩]; exact h1, h2⟩
  have up : ∀ b, ok b → okA w ok w' b := fun b hb => ⟨Nat.lt_of_lt_of_le (h.okLt b hb) hp.size, .inl hb⟩
  have notUp : ∀ b, b < w.heap.size → ¬ ok b → ¬ okA w ok w' b := fun b hb hn ⟨_, h2⟩ => h2.elim hn fun h3 => by omega
  obtain ⟨hun, hum⟩ := back_mem ioL ios outs u hu hlink hp.outs
  have cases_ : ∀ n e', (st.put dst { val := res, upd := u, rd := rd }).ent n = some e' →
      (∃ off k y out e, e' = { e with cells := putCells e.cells off out } ∧ (n, off, k) ∈ ioL ∧ y ∈ ios ∧ Link st R (n, off, k) y ∧ OutR w' (okA w ok w') y out ∧ st.ent n = some e ∧ out.length = k) ∨
      (n ∉ ioL.map (·.1) ∧ st.ent n = some e') := by
    intro n e' he'
    rcases setUpd_some u _ n e' he' with h1 | ⟨h1, h2⟩
    · obtain ⟨nm, off, k, y, out, e, q1, q2, q3, q4, q5, q6, q7⟩ := hum _ h1
      cases q1
      exact .inl ⟨off, k, y, out, e, rfl, q2, q3, q4, q5, q6, q7⟩
    · rw [hun] at h1
      exact .inr ⟨h1, h2⟩
  -- the block of an entry: named by the elder state
  have ofOld : ∀ n e', (st.put dst { val := res, upd := u, rd := rd }).ent n = some e' → ∃ e, st.ent n = some e ∧ e.gen = e'.gen ∧ e.frozen = e'.frozen := by
    intro n e' he'
    rcases cases_ n e' he' with ⟨off, k, y, out, e, rfl, _, _, _, _, he, _⟩ | ⟨_, he⟩
    · exact ⟨e, he, rfl, rfl⟩
    · exact ⟨e', he, rfl, rfl⟩
  refine { os := hp.os.trans h.os, tape := hp.tape.trans h.tape, output := hp.output.trans h.output, size := Nat.le_trans h.size hp.size, low := ?_, ioK := ?_, okLt := fun b hb => hb.1, okLow := ?_, okUp := fun b hb => up b (h.okUp b hb), ents := ?_, apart := ?_, slots := ?_, defers := defers_put h.defers, fresh := h.fresh }
  · intro k hk hk2
    rw [hp.low k (Nat.lt_of_lt_of_le hk h.size) ?_]
    · exact h.low k hk hk2
    · intro y hy hyk
      obtain ⟨t, ht, e, d, he, hf, hR, hd, hn, hl⟩ := hlink.mem_right y hy
      obtain ⟨B, d', hE⟩ := h.ents _ e he
      have := Option.some.inj (hR.symm.trans hE.at_); cases this
      rcases hE.base with hb | hb
      · omega
      · obtain ⟨_, x', hx1, _, hxB, _, _⟩ := hE.io hb
        exact hk2 x' hx1 (hxB.trans hyk)
  · intro z hz
    obtain ⟨c1, c0, el, fr, h1, h2, h3, h4⟩ := h.ioK z hz
    by_cases hb : ∃ y ∈ ios, y.B = z.B
    · obtain ⟨y, hy, hyB⟩ := hb
      obtain ⟨c2, c1', el2, fr2, k1, k2, k3, k4⟩ := hp.ioK y hy
      rw [hyB, h2] at k1; cases k1
      obtain ⟨t, ht, e, d, he, hf, hR, hd, hn, hl⟩ := hlink.mem_right y hy
      obtain ⟨B, d', hE⟩ := h.ents _ e he
      have := Option.some.inj (hR.symm.trans hE.at_); cases this
      refine ⟨c2, c0, el, fr, h1, by rw [← hyB]; exact k2, k3.trans h3, fun i hi => ?_⟩
      have hg0 : e.gen = 0 := by
        rcases hE.base with hb | hb
        · have := lt_of_heap h1; omega
        · exact hb
      obtain ⟨_, x', hx1, _, hxB, hxd, hxn⟩ := hE.io hg0
      have hzx : z.d = x'.d ∧ z.n = x'.n := by
        have := hGG.one z hz x' hx1 (by rw [hxB, hyB])
        rw [this]; exact ⟨rfl, rfl⟩
      rw [k4 i (by omega)]; exact h4 i (by omega)
    · exact ⟨c1, c0, el, fr, h1, by rw [hp.low z.B (lt_of_heap h2) fun y hy e => hb ⟨y, hy, e⟩]; exact h2, h3, h4⟩
  · rintro b ⟨_, hb⟩
    rcases hb with hb | hb
    · exact h.okLow b hb
    · exact .inr (Nat.le_trans h.size hb)
  · intro n e' he'
    rcases cases_ n e' he' with ⟨off, k, y, out, e, rfl, _, hy, ⟨e2, d, q1, q2, q3, q4, q5, q6⟩, ⟨o1, c2, el2, vs2, o2, o3, o4⟩, he, hol⟩ | ⟨hn, he⟩
    · rw [he] at q1; cases q1
      obtain ⟨B, d', hE⟩ := h.ents n e he
      have := Option.some.inj (q3.symm.trans hE.at_); cases this
      obtain ⟨c, el, vs, b1, b2, b3, b4⟩ := hE.body
      obtain ⟨c2', c1', el', fr', k1, k2, k3, k4⟩ := hp.ioK y hy
      rw [b1] at k1; cases k1
      rw [k2] at o2; cases o2
      have hvl := b2.length
      have ho3 := VRs.mono (R' := R) (Ext.refl _ _) (fun _ h => h) (fun _ _ _ h => by cases h) _ _ o3
      have hol2 := o3.length
      have hnew := (VRs.mono hx up (fun _ _ _ h => h) _ _ b2).put ho3 off
      simp only at q4 q5 q6
      refine ⟨y.B, d, hE.at_, ⟨_, _, _, k2, hnew, ?_, ?_⟩, fun hf => ?_, fun hf => notUp _ hE.lt (hE.own hf), hE.base, fun h0 => ?_⟩
      · intro j hj
        by_cases j1 : j < off
        · rw [k4 _ (by omega), List.append_assoc, List.getElem?_append_left (by rw [List.length_take]; omega), List.getElem?_take_of_lt j1]
          exact b3 j (by omega)
        · by_cases j2 : j < off + k
          · rw [show d + j = y.d + (j - off) from by omega, o4 _ (by omega), List.append_assoc, List.getElem?_append_right (by rw [List.length_take]; omega), List.length_take, List.getElem?_append_left (by omega)]
            congr 1; omega
          · simp only [List.length_append, List.length_take, List.length_drop] at hj
            rw [k4 _ (by omega), List.getElem?_append_right (by rw [List.length_append, List.length_take]; omega), List.getElem?_drop, List.length_append, List.length_take]
            rw [b3 j (by omega)]
            congr 1; omega
      · rcases b4 with b4 | b4
        · left; subst b4; simp at hvl
          have : vs2 = [] := List.eq_nil_of_length_eq_zero (by omega)
          simp [this]
        · right; simp only [List.length_append, List.length_take, List.length_drop]; omega
      · simp only at hf; rw [q2] at hf; cases hf
      · obtain ⟨z1, z2, z3, z4, z5, z6, z7⟩ := hE.io h0
        refine ⟨z1, z2, z3, z4, z5, z6, ?_⟩
        rw [z7]; simp only [putCells, List.length_append, List.length_take, List.length_drop]; omega
    · obtain ⟨B, d, hE⟩ := h.ents n e' he
      refine ⟨B, d, hE.keep hx up (fun _ _ _ h => h) ?_ fun hf => notUp _ hE.lt (hE.own hf)⟩
      refine hp.low B hE.lt fun y hy hyB => ?_
      obtain ⟨t, ht, e, d', q1, q2, q3, _⟩ := hlink.mem_right y hy
      exact h.apart t.1 n e e' _ _ (fun e => hn (e ▸ List.mem_map.2 ⟨t, ht, rfl⟩)) q1 he q3 hE.at_ q2 hyB
  · intro n n' e e' p p' hne he he' hp1 hp2 hf
    obtain ⟨e0, k1, k2, k3⟩ := ofOld n e he
    obtain ⟨e0', k1', k2', k3'⟩ := ofOld n' e' he'
    exact h.apart n n' e0 e0' p p' hne k1 k1' (by rw [k2]; exact hp1) (by rw [k2']; exact hp2) (by rw [k3]; exact hf)
  · exact slots_put (VRs.mono hx up (fun _ _ _ h => h) _ _ h.slots) dst (VR.mono (R := noR) (Ext.refl _ _) (fun _ h => h) (fun _ _ _ h => by cases h) _ _ hp.res)

theorem run_callFunc {f : FuncId} (he : enters P f) (args : Array Value) (w : World) : (callFunc f args).run P w = .ok (.enter f args) w := by
  obtain ⟨fn, h1, h2, h3⟩ := he
  simp only [callFunc, Sem.run_bind, run_program, Result.andThen_ok, h1, h2, h3, Bool.false_eq_true, if_false, Sem.run_pure]

theorem op_call {K : Act → World → Prop} {Q : Exit → Act → World → Prop} (hT : TabOK P T) (hGG : G.ok) (h : SR G st a w ok R lim) {c : Call} {f : Operand} (ho : o.op = .call c) (hcal : c.callee = .value f) (e : evalOp P T o g st = some r)
    (hK : ∀ v w' ok' R', SR G (st.put o.dst r) (a.put o.dst v) w' ok' R' (fun x => lim x ∨ x = g) → K (a.put o.dst v) w') : o.wp P a w K Q := by
  simp only [evalOp, ho, hcal] at e
  split at e
  · rename_i f0 caps hf
    have hfv := h.ev f
    rw [hf] at hfv
    obtain ⟨cvs, hfa, hcaps⟩ := hfv
    unfold evalCall at e
    split at e
    · cases e
    · rename_i as fz ioL hprep
      split at e
      · rename_i hh
        obtain ⟨hnd, hnf⟩ := hh
        split at e
        · cases e
        · rename_i res outs hres
          split at e
          · cases e
          · rename_i u hu
            cases e
            have hall := (ev_list h c.args.toList).append hcaps
            have hz := prep_gen st.ent _ 0 as fz ioL hprep
            obtain ⟨ios, hargs, hlinks⟩ := prep_sound (ok' := okF st R ok fz) h (fun _ hb => .inl hb) _ _ 0 as fz ioL hprep hall fun nm hn e b d he hR => .inr ⟨nm, hn, e, d, he, hR⟩
            have h1 := h.freeze fz hz
            have hlinks1 : All2 (Link { st with en := setFrz st.en fz } R) ioL ios := by
              have : ∀ {l : List (Nat × Nat × Nat)} {m : List IOw}, (∀ t ∈ l, t.1 ∉ fz) → All2 (Link st R) l m → All2 (Link { st with en := setFrz st.en fz } R) l m := by
                intro l m hl hm
                induction hm with
                | nil => exact .nil
                | cons hp _ ih =>
                  obtain ⟨e, d, a1, a2⟩ := hp
                  refine .cons ⟨e, d, ?_, a2⟩ (ih fun t ht => hl t (by simp [ht]))
                  show (setFrz st.en fz).getD _ none = _
                  rw [setFrz_not fz st.en (hl _ (by simp))]; exact a1
              refine this (fun t ht => ?_) hlinks
              have := List.all_eq_true.1 hnf t.1 (List.mem_map.2 ⟨t, ht, rfl⟩)
              simpa using this
            have hG1 : Gh.ok ⟨w, okF st R ok fz, ios⟩ := by
              refine ⟨fun y hy => ?_, links_one h1 hnd hlinks1, fun y hy hb => ?_⟩
              · obtain ⟨t, ht, e, d, q1, q2, q3, _⟩ := hlinks1.mem_right y hy
                obtain ⟨B, d', hE⟩ := h1.ents _ e q1
                have := Option.some.inj (q3.symm.trans hE.at_); cases this
                exact hE.lt
              · obtain ⟨t, ht, e, d, q1, q2, q3, _⟩ := hlinks1.mem_right y hy
                obtain ⟨B, d', hE⟩ := h1.ents _ e q1
                have := Option.some.inj (q3.symm.trans hE.at_); cases this
                exact hE.own q2 hb
            obtain ⟨hen, hcall⟩ := hT f0 as res outs hres
            have hC := hcall w _ _ ios hG1 h1.okLt hargs
            have hu1 : backRows ({ st with en := setFrz st.en fz } : St).ent ioL outs = some u := by
              have : ∀ (l : List (Nat × Nat × Nat)) (o : List (List MV)), (∀ t ∈ l, t.1 ∉ fz) → backRows ({ st with en := setFrz st.en fz } : St).ent l o = backRows st.ent l o := by
                intro l
                induction l with
                | nil => intro o _; cases o <;> rfl
                | cons t l ih =>
                  intro o hl
                  obtain ⟨nm, off, n⟩ := t
                  cases o with
                  | nil => rfl
                  | cons o os =>
                    have e1 : ({ st with en := setFrz st.en fz } : St).ent nm = st.ent nm := setFrz_not fz st.en (hl (nm, off, n) (by simp))
                    simp only [backRows, e1, ih os fun t ht => hl t (by simp [ht])]
              rw [this ioL outs fun t ht => ?_]
              · exact hu
              · have := List.all_eq_true.1 hnf t.1 (List.mem_map.2 ⟨t, ht, rfl⟩)
                simpa using this
            have hrun : (execOp a.eval o).run P w = .ok (.enter f0 ⟨c.args.toList.map a.eval ++ cvs⟩) w := by
              simp only [execOp, ho, resolve, hcal, Sem.run_bind, hfa, Deferred.ofValue, Sem.run_pure, Result.andThen_ok, invoke, run_callFunc hen]
              congr 2
              apply Array.ext'
              simp
            unfold Oper.wp
            rw [hrun, Oper.upon_enter]
            refine hC.mono ?_
            rintro e w' ⟨x, rfl, hp⟩
            have hS := SR.afterCall hGG h1 hlinks1 hG1 hp hu1 o.dst (fz ++ ioL.map (·.1))
            exact hK x w' _ R (hS.weaken fun _ h => .inl h)
      · cases e
  · cases e
end Go.Proofs.Ytkeelkeoijemiaa.Ev
