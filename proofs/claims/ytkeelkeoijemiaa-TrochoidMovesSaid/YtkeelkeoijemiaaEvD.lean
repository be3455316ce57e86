/- Writing, freezing: the invariant is kept. -/
import Derived.Test.YtkeelkeoijemiaaEvC
import Derived.Laws.CopyRow
namespace Go.Proofs.Ytkeelkeoijemiaa.Ev
open Go Go.RowKit

structure Gh.ok (G : Gh) : Prop where
  lt : ∀ x ∈ G.ios, x.B < G.w0.heap.size
  one : ∀ x ∈ G.ios, ∀ y ∈ G.ios, x.B = y.B → x = y
  no : ∀ x ∈ G.ios, ¬ G.ok0 x.B

variable {P : Program} {G : Gh} {st : St} {a : Act} {w : World} {ok : Nat → Prop} {R : Nat → Nat → Option (Nat × Nat)} {lim : Nat → Prop}

theorem lt_of_heap {w : World} {k : Nat} {o : Obj} (h : w.heap[k]? = some o) : k < w.heap.size := (Array.getElem?_eq_some_iff.1 h).1

theorem Ext.setRow {B : Nat} {c c' : Array Value} {el : TypeId} (hB : w.heap[B]? = some (.cells c el (0, 0))) (hs : c'.size = c.size) (hn : ¬ ok B) : Ext ok w (w.setRow B c') := by
  refine ⟨fun b hb => setRow_other _ _ _ _ (fun e => hn (e ▸ hb)), fun b n ⟨c1, el1, fr, h1, h2⟩ => ?_⟩
  by_cases hb : b = B
  · subst hb
    rw [hB] at h1; cases h1
    exact ⟨c', el, (0, 0), setRow_heap _ _ _ _ _ _ hB, by omega⟩
  · exact ⟨c1, el1, fr, by rw [setRow_other _ _ _ _ hb]; exact h1, h2⟩

/-- A write into a row of one's own. -/
theorem SR.write (hG : G.ok) (h : SR G st a w ok R lim) {nm B d0 : Nat} {e : Ent} (he : st.ent nm = some e) (hE : ER G w ok R nm e B d0) (hf : e.frozen = false)
    {c c' : Array Value} {el : TypeId} (hB : w.heap[B]? = some (.cells c el (0, 0))) (hs : c'.size = c.size) {lo hi : Nat} (hc : ∀ i, (i < lo ∨ hi ≤ i) → c'[i]? = c[i]?)
    (hio : e.gen = 0 → d0 ≤ lo ∧ hi ≤ d0 + e.cells.length) {R' : Nat → Nat → Option (Nat × Nat)} (hR : ∀ n g p, R n g = some p → R' n g = some p) {lim' : Nat → Prop} (hlim : ∀ n g, R' n g ≠ none → lim' g)
    {st' : St} {a' : Act} {nm' d' : Nat} {e' : Ent} (hE' : ER G (w.setRow B c') ok R' nm' e' B d') (hf' : e'.frozen = false)
    (hst : ∀ n x, st'.ent n = some x → (n = nm' ∧ x = e') ∨ (n ≠ nm ∧ n ≠ nm' ∧ st.ent n = some x)) (hsl : VRs (w.setRow B c') ok R' st'.sl a'.tmps.toList) (hd : a'.defers = []) :
    SR G st' a' (w.setRow B c') ok R' lim' := by
  have hn : ¬ ok B := hE.own hf
  have hx : Ext ok w (w.setRow B c') := Ext.setRow hB hs hn
  have hlt : B < w.heap.size := lt_of_heap hB
  have other : ∀ n x, n ≠ nm → st.ent n = some x → ∃ B1 d1, ER G w ok R n x B1 d1 ∧ B1 ≠ B := by
    intro n x hne hx1
    obtain ⟨B1, d1, h1⟩ := h.ents n x hx1
    exact ⟨B1, d1, h1, fun eq => h.apart nm n e x (B, d0) (B1, d1) (Ne.symm hne) he hx1 hE.at_ h1.at_ hf eq.symm⟩
  refine { os := h.os, tape := h.tape, output := h.output, size := by simpa [World.setRow] using h.size, low := ?_, ioK := ?_, okLt := fun b hb => by simpa [World.setRow] using h.okLt b hb, okLow := h.okLow, okUp := h.okUp, ents := ?_, apart := ?_, slots := hsl, defers := hd, fresh := hlim }
  · intro k hk hk2
    by_cases hkB : k = B
    · exfalso
      rcases hE.base with hb | hb
      · omega
      · obtain ⟨_, x, hx1, _, hxB, _, _⟩ := hE.io hb
        exact hk2 x hx1 (hxB.trans hkB.symm)
    · rw [setRow_other _ _ _ _ hkB]; exact h.low k hk hk2
  · intro x hx1
    obtain ⟨c1, c0, el1, fr, h1, h2, h3, h4⟩ := h.ioK x hx1
    by_cases hxB : x.B = B
    · have hg : e.gen = 0 := by
        rcases hE.base with hb | hb
        · have := hG.lt x hx1; omega
        · exact hb
      obtain ⟨_, y, hy1, _, hyB, hyd, hyn⟩ := hE.io hg
      have hxy : x = y := hG.one x hx1 y hy1 (hxB.trans hyB.symm)
      subst hxy
      rw [hxB, hB] at h2
      cases h2
      obtain ⟨hr1, hr2⟩ := hio hg
      refine ⟨c', c0, el, (0, 0), h1, ?_, hs.trans h3, fun i hi => ?_⟩
      · rw [hxB]; exact setRow_heap _ _ _ _ _ _ hB
      · rw [hc i (by omega)]; exact h4 i hi
    · exact ⟨c1, c0, el1, fr, h1, by rw [setRow_other _ _ _ _ hxB]; exact h2, h3, h4⟩
  · intro n x hx1
    rcases hst n x hx1 with ⟨rfl, rfl⟩ | ⟨hne, _, hx2⟩
    · exact ⟨B, d', hE'⟩
    · obtain ⟨B1, d1, h1, hne1⟩ := other n x hne hx2
      exact ⟨B1, d1, h1.keep hx (fun _ h => h) hR (setRow_other _ _ _ _ hne1) h1.own⟩
  · intro n n' x x' p p' hne hx1 hx1' hp hp' hfx
    rcases hst n x hx1 with ⟨rfl, rfl⟩ | ⟨hn1, _, hx2⟩
    · rcases hst n' x' hx1' with ⟨rfl, rfl⟩ | ⟨hn1', _, hx2'⟩
      · exact absurd rfl hne
      · obtain ⟨B1, d1, h1, hne1⟩ := other n' x' hn1' hx2'
        have e1 := Option.some.inj (hp.symm.trans hE'.at_)
        have e2 := Option.some.inj (hp'.symm.trans (hR _ _ _ h1.at_))
        subst e1 e2
        exact fun e => hne1 e.symm
    · obtain ⟨B1, d1, h1, hne1⟩ := other n x hn1 hx2
      have e1 := Option.some.inj (hp.symm.trans (hR _ _ _ h1.at_))
      rcases hst n' x' hx1' with ⟨rfl, rfl⟩ | ⟨hn1', _, hx2'⟩
      · have e2 := Option.some.inj (hp'.symm.trans hE'.at_)
        subst e1 e2
        exact hne1
      · obtain ⟨B2, d2, h2⟩ := h.ents n' x' hx2'
        have e2 := Option.some.inj (hp'.symm.trans (hR _ _ _ h2.at_))
        subst e1 e2
        exact h.apart n n' x x' _ _ hne hx2 hx2' h1.at_ h2.at_ hfx

theorem setFrz_some : ∀ (f : List Nat) (en : List (Option Ent)) (m : Nat) (e : Ent), (setFrz en f).getD m none = some e → ∃ e0, en.getD m none = some e0 ∧ e.gen = e0.gen ∧ e.cells = e0.cells ∧ (e.frozen = true ↔ (e0.frozen = true ∨ m ∈ f))
  | [], en, m, e, h => ⟨e, h, rfl, rfl, by simp⟩
  | n :: r, en, m, e, h => by
    simp only [setFrz] at h
    obtain ⟨e1, h1, hg, hc, hf⟩ := setFrz_some r _ m e h
    unfold frzAt at h1
    split at h1
    · rename_i e2 he2
      rcases getD_set_some h1 with ⟨rfl, hh⟩ | ⟨hne, hh⟩
      · cases hh
        exact ⟨e2, he2, hg, hc, by rw [hf]; simp⟩
      · exact ⟨e1, hh, hg, hc, by rw [hf]; simp [hne]⟩
    · rename_i he2
      refine ⟨e1, h1, hg, hc, ?_⟩
      have : m ≠ n := by rintro rfl; rw [he2] at h1; cases h1
      rw [hf]; simp [this]

/-- What may be read, some rows frozen. -/
def okF (st : St) (R : Nat → Nat → Option (Nat × Nat)) (ok : Nat → Prop) (fz : List Nat) : Nat → Prop := fun b => ok b ∨ ∃ nm ∈ fz, ∃ e d, st.ent nm = some e ∧ R nm e.gen = some (b, d)

theorem SR.freeze (h : SR G st a w ok R lim) (fz : List Nat) (hz : ∀ nm ∈ fz, ∀ e, st.ent nm = some e → e.gen ≠ 0) :
    SR G { st with en := setFrz st.en fz } a w (okF st R ok fz) R lim := by
  have up : ∀ b, ok b → okF st R ok fz b := fun b hb => .inl hb
  have old : ∀ n x, ({ st with en := setFrz st.en fz } : St).ent n = some x → ∃ e0, st.ent n = some e0 ∧ x.gen = e0.gen ∧ x.cells = e0.cells ∧ (x.frozen = true ↔ (e0.frozen = true ∨ n ∈ fz)) :=
    fun n x hx => setFrz_some fz st.en n x hx
  refine { h with okLt := ?_, okLow := ?_, okUp := fun b hb => .inl (h.okUp b hb), ents := ?_, apart := ?_, slots := VRs.mono (Ext.refl _ _) up (fun _ _ _ h => h) _ _ h.slots }
  · rintro b (hb | ⟨nm, _, e, d, he, hR⟩)
    · exact h.okLt b hb
    · obtain ⟨B, d', hE⟩ := h.ents nm e he
      have := Option.some.inj (hR.symm.trans hE.at_)
      cases this; exact hE.lt
  · rintro b (hb | ⟨nm, hn, e, d, he, hR⟩)
    · exact h.okLow b hb
    · obtain ⟨B, d', hE⟩ := h.ents nm e he
      have := Option.some.inj (hR.symm.trans hE.at_)
      cases this
      exact .inr (hE.base.resolve_right (hz nm hn e he))
  · intro n x hx
    obtain ⟨e0, he0, hg, hc, hf⟩ := old n x hx
    obtain ⟨B, d, hE⟩ := h.ents n e0 he0
    obtain ⟨c, el, vs, h1, h2, h3, h4⟩ := hE.body
    refine ⟨B, d, by rw [hg]; exact hE.at_, ⟨c, el, vs, h1, by rw [hc]; exact VRs.mono (Ext.refl _ _) up (fun _ _ _ h => h) _ _ h2, h3, h4⟩, ?_, ?_, by rw [hg]; exact hE.base, ?_⟩
    · intro hx1
      rcases hf.1 hx1 with hx2 | hx2
      · exact .inl (hE.fro hx2)
      · exact .inr ⟨n, hx2, e0, d, he0, hE.at_⟩
    · intro hx1
      have hnf : e0.frozen = false := by
        cases hh : e0.frozen with
        | false => rfl
        | true => rw [hf.2 (.inl hh)] at hx1; cases hx1
      have hnn : n ∉ fz := fun hh => by rw [hf.2 (.inr hh)] at hx1; cases hx1
      rintro (hb | ⟨nm, hm, e, d', he, hR⟩)
      · exact hE.own hnf hb
      · exact h.apart n nm e0 e (B, d) (B, d') (fun e => hnn (e ▸ hm)) he0 he hE.at_ hR hnf rfl
    · intro hg0
      rw [hg] at hg0
      obtain ⟨hfr, hio⟩ := hE.io hg0
      refine ⟨?_, by rw [hc]; exact hio⟩
      cases hh : x.frozen with
      | false => rfl
      | true =>
        rcases hf.1 hh with hx2 | hx2
        · rw [hfr] at hx2; cases hx2
        · exact absurd hg0 (hz n hx2 e0 he0)
  · intro n n' x x' p p' hne hx hx' hp hp' hfx
    obtain ⟨e0, he0, hg, hc, hf⟩ := old n x hx
    obtain ⟨e0', he0', hg', hc', hf'⟩ := old n' x' hx'
    have hnf : e0.frozen = false := by
      cases hh : e0.frozen with
      | false => rfl
      | true => rw [hf.2 (.inl hh)] at hfx; cases hfx
    rw [hg] at hp; rw [hg'] at hp'
    exact h.apart n n' e0 e0' p p' hne he0 he0' hp hp' hnf

mutual
theorem freeze_sound (h : SR G st a w ok R lim) {ok' : Nat → Prop} (up : ∀ b, ok b → ok' b) : ∀ (k : Nat) (m m' : MV) (ns : List Nat) (x : Value), freeze st.ent k m = some (m', ns) → VR w ok R m x →
    (∀ nm ∈ ns, ∀ e b d, st.ent nm = some e → R nm e.gen = some (b, d) → ok' b) → VR w ok' noR m' x
  | 0, _, _, _, _, e, _, _ => by simp [freeze] at e
  | k + 1, .sc v, m', ns, x, e, hv, _ => by simp [freeze] at e; obtain ⟨rfl, rfl⟩ := e; exact hv
  | k + 1, .fs n c cs, m', ns, x, e, hv, _ => by simp [freeze] at e; obtain ⟨rfl, rfl⟩ := e; exact VR.mono (R := R) (Ext.refl _ _) up (fun _ _ _ h => h) _ _ hv
  | k + 1, .any, m', ns, x, e, hv, _ => by simp [freeze] at e
  | k + 1, .cp cs, m', ns, x, e, hv, _ => by simp [freeze] at e; obtain ⟨rfl, rfl⟩ := e; exact VR.mono (R := R) (Ext.refl _ _) up (fun _ _ _ h => h) _ _ hv
  | k + 1, .agg cs, m', ns, x, e, ⟨vs, hx, hv⟩, hb => by
    simp only [freeze, Option.map_eq_some_iff] at e
    obtain ⟨⟨y, z⟩, h1, h2⟩ := e; cases h2
    exact ⟨vs, hx, freezes_sound h up k cs y z vs h1 hv hb⟩
  | k + 1, .tup cs, m', ns, x, e, ⟨vs, hx, hv⟩, hb => by
    simp only [freeze, Option.map_eq_some_iff] at e
    obtain ⟨⟨y, z⟩, h1, h2⟩ := e; cases h2
    exact ⟨vs, hx, freezes_sound h up k cs y z vs h1 hv hb⟩
  | k + 1, .fn f cs, m', ns, x, e, ⟨vs, hx, hv⟩, hb => by
    simp only [freeze, Option.map_eq_some_iff] at e
    obtain ⟨⟨y, z⟩, h1, h2⟩ := e; cases h2
    exact ⟨vs, hx, freezes_sound h up k cs y z vs h1 hv hb⟩
  | k + 1, .ptr nm g off, m', ns, x, e, ⟨B, d, hR, hx⟩, hb => by
    simp only [freeze] at e
    split at e
    · rename_i en he
      split at e
      · rename_i hg
        simp only [Option.map_eq_some_iff] at e
        obtain ⟨⟨y, z⟩, h1, h2⟩ := e; cases h2
        obtain ⟨B', d', hE⟩ := h.ents nm en he
        have hBB := Option.some.inj ((hg.1 ▸ hR).symm.trans hE.at_)
        cases hBB
        obtain ⟨c, el, vs, h3, h4, h5, _⟩ := hE.body
        refine ⟨B, d + off, vs.drop off, hx, hb nm (by simp) en B d he hE.at_, ?_, freezes_sound h up k _ y z _ h1 (h4.drop off) fun n hn => hb n (by simp [hn])⟩
        intro i hi
        simp only [List.length_drop] at hi
        simp only [World.cell?, h3, List.getElem?_drop, Nat.add_assoc]
        exact h5 (off + i) (by omega)
      · cases e
    · cases e
  | k + 1, .row nm g off len cap sz, m', ns, x, e, ⟨B, d, c0, hR, hx, hl, hc, _⟩, hb => by
    simp only [freeze] at e
    split at e
    · rename_i en he
      split at e
      · rename_i hg
        simp only [Option.map_eq_some_iff] at e
        obtain ⟨⟨y, z⟩, h1, h2⟩ := e; cases h2
        obtain ⟨B', d', hE⟩ := h.ents nm en he
        have hBB := Option.some.inj ((hg.1 ▸ hR).symm.trans hE.at_)
        cases hBB
        obtain ⟨c, el, vs, h3, h4, h5, _⟩ := hE.body
        refine ⟨_, c0, hx, hl, hc, .inr ⟨B, d + off, (vs.drop off).take (len * sz), rfl, hb nm (by simp) en B d he hE.at_, ?_, freezes_sound h up k _ y z _ h1 ((h4.drop off).take _) fun n hn => hb n (by simp [hn])⟩⟩
        intro i hi
        simp only [List.length_take, List.length_drop] at hi
        have hi1 : i < len * sz := Nat.lt_of_lt_of_le hi (Nat.min_le_left _ _)
        have hi2 : i < vs.length - off := Nat.lt_of_lt_of_le hi (Nat.min_le_right _ _)
        rw [List.getElem?_take_of_lt hi1, List.getElem?_drop]
        simp only [World.cell?, h3, Nat.add_assoc]
        exact h5 (off + i) (by omega)
      · cases e
    · cases e
theorem freezes_sound (h : SR G st a w ok R lim) {ok' : Nat → Prop} (up : ∀ b, ok b → ok' b) : ∀ (k : Nat) (ms ms' : List MV) (ns : List Nat) (vs : List Value), freezes st.ent k ms = some (ms', ns) → VRs w ok R ms vs →
    (∀ nm ∈ ns, ∀ e b d, st.ent nm = some e → R nm e.gen = some (b, d) → ok' b) → VRs w ok' noR ms' vs
  | 0, _, _, _, _, e, _, _ => by simp [freezes] at e
  | k + 1, [], ms', ns, vs, e, hv, _ => by simp [freezes] at e; obtain ⟨rfl, rfl⟩ := e; exact hv
  | k + 1, m :: ms, ms', ns, vs, e, ⟨v, vt, hx, hv, hvs⟩, hb => by
    simp only [freezes] at e
    split at e
    · rename_i x y h1 h2
      cases e
      subst hx
      exact VRs.cons (freeze_sound h up k m x.1 x.2 v h1 hv fun n hn => hb n (by simp [hn])) (freezes_sound h up k ms y.1 y.2 vt h2 hvs fun n hn => hb n (by simp [hn]))
    · cases e
end
mutual
theorem freeze_gen (en : Nat → Option Ent) : ∀ (k : Nat) (m m' : MV) (ns : List Nat), freeze en k m = some (m', ns) → ∀ nm ∈ ns, ∀ e, en nm = some e → e.gen ≠ 0
  | 0, _, _, _, e => by simp [freeze] at e
  | k + 1, .sc v, m', ns, e => by simp [freeze] at e; obtain ⟨rfl, rfl⟩ := e; simp
  | k + 1, .fs n c cs, m', ns, e => by simp [freeze] at e; obtain ⟨rfl, rfl⟩ := e; simp
  | k + 1, .any, m', ns, e => by simp [freeze] at e
  | k + 1, .cp cs, m', ns, e => by simp [freeze] at e; obtain ⟨rfl, rfl⟩ := e; simp
  | k + 1, .agg cs, m', ns, e => by
    simp only [freeze, Option.map_eq_some_iff] at e
    obtain ⟨⟨y, z⟩, h1, h2⟩ := e; cases h2; exact freezes_gen en k cs y z h1
  | k + 1, .tup cs, m', ns, e => by
    simp only [freeze, Option.map_eq_some_iff] at e
    obtain ⟨⟨y, z⟩, h1, h2⟩ := e; cases h2; exact freezes_gen en k cs y z h1
  | k + 1, .fn f cs, m', ns, e => by
    simp only [freeze, Option.map_eq_some_iff] at e
    obtain ⟨⟨y, z⟩, h1, h2⟩ := e; cases h2; exact freezes_gen en k cs y z h1
  | k + 1, .ptr nm g off, m', ns, e => by
    simp only [freeze] at e
    split at e
    · rename_i en0 he
      split at e
      · rename_i hg
        simp only [Option.map_eq_some_iff] at e
        obtain ⟨⟨y, z⟩, h1, h2⟩ := e; cases h2
        intro n hn e1 he1
        rcases List.mem_cons.1 hn with rfl | hn
        · rw [he] at he1; cases he1; rw [hg.1]; exact hg.2
        · exact freezes_gen en k _ y z h1 n hn e1 he1
      · cases e
    · cases e
  | k + 1, .row nm g off len cap sz, m', ns, e => by
    simp only [freeze] at e
    split at e
    · rename_i en0 he
      split at e
      · rename_i hg
        simp only [Option.map_eq_some_iff] at e
        obtain ⟨⟨y, z⟩, h1, h2⟩ := e; cases h2
        intro n hn e1 he1
        rcases List.mem_cons.1 hn with rfl | hn
        · rw [he] at he1; cases he1; rw [hg.1]; exact hg.2.1
        · exact freezes_gen en k _ y z h1 n hn e1 he1
      · cases e
    · cases e
theorem freezes_gen (en : Nat → Option Ent) : ∀ (k : Nat) (ms ms' : List MV) (ns : List Nat), freezes en k ms = some (ms', ns) → ∀ nm ∈ ns, ∀ e, en nm = some e → e.gen ≠ 0
  | 0, _, _, _, e => by simp [freezes] at e
  | k + 1, [], ms', ns, e => by simp [freezes] at e; obtain ⟨rfl, rfl⟩ := e; simp
  | k + 1, m :: ms, ms', ns, e => by
    simp only [freezes] at e
    split at e
    · rename_i x y h1 h2
      cases e
      intro n hn
      rcases List.mem_append.1 hn with hn | hn
      · exact freeze_gen en k m x.1 x.2 h1 n hn
      · exact freezes_gen en k ms y.1 y.2 h2 n hn
    · cases e
end
end Go.Proofs.Ytkeelkeoijemiaa.Ev
