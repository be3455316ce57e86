/- The operations, one by one. -/
import Derived.Test.YtkeelkeoijemiaaEvE
namespace Go.Proofs.Ytkeelkeoijemiaa.Ev
open Go Go.RowKit

variable {P : Program} {T : Tab} {G : Gh} {st : St} {a : Act} {w : World} {ok : Nat → Prop} {R : Nat → Nat → Option (Nat × Nat)} {lim : Nat → Prop} {o : Oper} {g : Nat} {r : Res}

theorem op_move (h : SR G st a w ok R lim) {x : Operand} (ho : o.op = .move x ∨ o.op = .assign x) (e : evalOp P T o g st = some r) : Goes P G o g r st a w lim := by
  rcases ho with ho | ho
  all_goals
    simp only [evalOp, ho] at e
    cases e
    exact goes_val h (v := a.eval x) (by simp [execOp, ho]) (h.ev x)

theorem op_pick (h : SR G st a w ok R lim) {c x y : Operand} (ho : o.op = .pick c x y) (e : evalOp P T o g st = some r) : Goes P G o g r st a w lim := by
  have hc := h.ev c
  simp only [evalOp, ho] at e
  split at e
  · rename_i t hm
    cases e
    rw [hm] at hc
    have hc : a.eval c = .bool t := hc
    cases t
    · exact goes_val h (v := a.eval y) (by simp [execOp, ho, hc, asBool]) (h.ev y)
    · exact goes_val h (v := a.eval x) (by simp [execOp, ho, hc, asBool]) (h.ev x)
  · cases e

theorem op_alloc (h : SR G st a w ok R lim) (hg : g ≠ 0) (hR : ∀ n, R n g = none) {t : TypeId} (ho : o.op = .alloc t) (e : evalOp P T o g st = some r) : Goes P G o g r st a w lim := by
  simp only [evalOp, ho] at e
  split at e
  · rename_i d z hd hz
    cases e
    obtain ⟨v, hv, hzv⟩ := run_zero' hz w
    refine ⟨_, w.alloc (.cells v.cells t), .pointer (some ⟨w.heap.size, 0, none⟩), ?_, .inl rfl, ok, addR R d g (w.heap.size, 0), ?_⟩
    · simp [execOp, ho, Instr.alloc, hv, newVar, newRow]
    · have := h.new (m := .ptr d g 0) (v := .pointer (some ⟨w.heap.size, 0, none⟩)) o.dst hg (hR d) v.cells t (VRs_cv1 z) (fun i _ => by rw [← hzv]; simp) [] (by simp) [] ⟨w.heap.size, 0, addR_self, rfl⟩
      simpa using this
  · cases e

theorem op_box (h : SR G st a w ok R lim) (hg : g ≠ 0) (hR : ∀ n, R n g = none) {t : TypeId} {x : Operand} (ho : o.op = .box t x) (e : evalOp P T o g st = some r) : Goes P G o g r st a w lim := by
  simp only [evalOp, ho] at e
  split at e
  · rename_i d cs hd hc
    cases e
    obtain ⟨h1, _⟩ := cellsOf_sound hc (h.ev x)
    refine ⟨_, w.alloc (.cells (a.eval x).cells t), .pointer (some ⟨w.heap.size, 0, none⟩), ?_, .inl rfl, ok, addR R d g (w.heap.size, 0), ?_⟩
    · simp [execOp, ho, Instr.box, newVar, newRow]
    · have := h.new (m := .ptr d g 0) (v := .pointer (some ⟨w.heap.size, 0, none⟩)) o.dst hg (hR d) (a.eval x).cells t h1 (fun i _ => by simp) [] (by simp) [] ⟨w.heap.size, 0, addR_self, rfl⟩
      simpa using this
  · cases e

theorem op_load (h : SR G st a w ok R lim) {t : TypeId} {x : Operand} (ho : o.op = .load t x) (e : evalOp P T o g st = some r) : Goes P G o g r st a w lim := by
  simp only [evalOp, ho] at e
  split at e
  · rename_i cs hb
    split at e
    · rename_i v hv
      cases e
      obtain ⟨B, o', vs, hx, hc, hvs⟩ := behind_sound h hb (h.ev x)
      obtain ⟨y, hy, hvy⟩ := takeT_sound hv hc hvs
      exact goes_val h (v := y) (by simp [execOp, ho, Instr.loadAt, hx, Instr.sureAddr, hy]) hvy
    · cases e
  · cases e

theorem op_store (hG : G.ok) (h : SR G st a w ok R lim) {t : TypeId} {p x : Operand} (ho : o.op = .store t p x) (e : evalOp P T o g st = some r) : Goes P G o g r st a w lim := by
  simp only [evalOp, ho] at e
  split at e
  · rename_i nm gen off n cs hp hn hc
    split at e
    · rename_i en he
      split at e
      · rename_i hh
        obtain ⟨hg, hf, hl, ho2⟩ := hh
        cases e
        obtain ⟨h1, h2⟩ := cellsOf_sound hc (h.ev x)
        have hpx := h.ev p
        rw [hp] at hpx
        obtain ⟨B, d, hR, hpa⟩ := hpx
        obtain ⟨B', d', hE⟩ := h.ents nm en he
        have := Option.some.inj ((hg ▸ hR).symm.trans hE.at_); cases this
        obtain ⟨c, el, vs, hB, hvs, hcv, hsz⟩ := hE.body
        have hlen := h1.length
        have hvl := hvs.length
        have hsz' : (a.eval x).cells.toList = [] ∨ d + off + 0 + (a.eval x).cells.toList.length ≤ c.size := by
          rcases hsz with hsz | hsz
          · left
            have : vs.length = 0 := by simp [hsz]
            apply List.eq_nil_of_length_eq_zero; omega
          · right; omega
        have hst : ∃ c' : Array Value, (storeCells ⟨B, d + off, none⟩ (a.eval x).cells.toList).run P w = .ok () (w.setRow B c') ∧ c'.size = c.size ∧ (∀ i, (i < d + off ∨ d + off + n ≤ i) → c'[i]? = c[i]?) ∧
            ∀ i, i < n → c'[d + off + i]? = (a.eval x).cells.toList[i]? := by
          rcases hsz' with hs0 | hs0
          · rw [hs0]
            refine ⟨c, ?_, rfl, fun _ _ => rfl, fun i hi => ?_⟩
            · rw [setRow_self w B c el (0, 0) hB]; rfl
            · rw [hs0] at hlen; simp at hlen; omega
          · have hr := run_storeCells_at P B (d + off) el (a.eval x).cells.toList 0 c w hB hs0 h2
            refine ⟨_, hr, ?_, ?_, ?_⟩
            · simp only [List.size_toArray, List.length_append, List.length_take, List.length_drop, Array.length_toList] at hs0 ⊢; omega
            · intro i hi
              have hlc : c.toList.length = c.size := by simp
              simp only [List.getElem?_toArray, Nat.add_zero] at hs0 ⊢
              rcases hi with hi | hi
              · rw [List.append_assoc, List.getElem?_append_left (by rw [List.length_take]; omega), List.getElem?_take_of_lt hi]; simp
              · rw [List.getElem?_append_right (by rw [List.length_append, List.length_take]; omega), List.getElem?_drop, List.length_append, List.length_take]
                have : d + off + (a.eval x).cells.toList.length + (i - (min (d + off) c.toList.length + (a.eval x).cells.toList.length)) = i := by omega
                rw [this]; simp
            · intro i hi
              have hlc : c.toList.length = c.size := by simp
              simp only [List.getElem?_toArray, Nat.add_zero] at hs0 ⊢
              rw [List.append_assoc, List.getElem?_append_right (by rw [List.length_take]; omega), List.length_take, List.getElem?_append_left (by omega)]
              congr 1; omega
        obtain ⟨c', hrun, hs, hcs, hcn⟩ := hst
        have hx := Ext.setRow (ok := ok) hB hs (hE.own hf)
        have hvs' := VRs.mono hx (fun _ h => h) (fun _ _ _ h => h) _ _ hvs
        have h1' := VRs.mono hx (fun _ h => h) (fun _ _ _ h => h) _ _ h1
        have hnew := hvs'.put h1' off
        have hE' : ER G (w.setRow B c') ok R nm { en with cells := putCells en.cells off cs } B d := by
          refine ⟨hE.at_, ⟨c', el, _, setRow_heap _ _ _ _ _ _ hB, hnew, ?_, ?_⟩, fun hft => ?_, fun _ => hE.own hf, hE.base, fun h0 => ⟨hf, ?_⟩⟩
          · intro i hi
            by_cases hi1 : i < off
            · rw [hcs _ (by omega), List.append_assoc, List.getElem?_append_left (by rw [List.length_take]; omega), List.getElem?_take_of_lt hi1]
              exact hcv i (by omega)
            · by_cases hi2 : i < off + n
              · rw [show d + i = d + off + (i - off) from by omega, hcn _ (by omega), List.append_assoc, List.getElem?_append_right (by rw [List.length_take]; omega), List.length_take, List.getElem?_append_left (by omega)]
                congr 1; omega
              · rw [hcs _ (by omega), List.getElem?_append_right (by rw [List.length_append, List.length_take]; omega), List.getElem?_drop, List.length_append, List.length_take]
                simp only [List.length_append, List.length_take, List.length_drop] at hi
                rw [hcv i (by omega)]
                congr 1; omega
          · rcases hsz with hsz | hsz
            · left; subst hsz; simp at hvl; have : (a.eval x).cells.toList.length = 0 := by omega
              simp [List.eq_nil_of_length_eq_zero this]
            · right; rw [hs]; simp only [List.length_append, List.length_take, List.length_drop]; omega
          · rw [hf] at hft; cases hft
          · obtain ⟨_, y, hy, h5, h6, h7, h8⟩ := hE.io h0
            refine ⟨y, hy, h5, h6, h7, ?_⟩
            rw [h8]; simp only [putCells, List.length_append, List.length_take, List.length_drop]; omega
        have hlim : ∀ n g', R n g' ≠ none → (lim g' ∨ g' = g) := fun n g' h' => .inl (h.fresh n g' h')
        refine ⟨.skip, w.setRow B c', undef, ?_, .inr ⟨rfl, rfl⟩, ok, R, ?_⟩
        · have hsize : (a.eval x).cells.size = n := by have := hlen; simp at this; omega
          simp [execOp, ho, Instr.storeAt, hpa, Instr.sureAddr, storeVar, run_sizeOf' hn, hsize, hrun]
        · refine h.write hG he hE hf hB hs (lo := d + off) (hi := d + off + n) hcs (fun _ => ⟨by omega, by omega⟩) (fun _ _ _ h => h) hlim hE' hf ?_ ?_ (defers_put h.defers)
          · intro m y hy
            rcases setUpd_some _ _ _ _ hy with h3 | ⟨h3, h4⟩
            · simp at h3; exact .inl h3
            · simp at h3; exact .inr ⟨h3, h3, h4⟩
          · exact slots_put (VRs.mono hx (fun _ h => h) (fun _ _ _ h => h) _ _ h.slots) o.dst rfl
      · cases e
    · cases e
  · cases e

theorem op_nilCheck (h : SR G st a w ok R lim) {x : Operand} (ho : o.op = .nilCheck x) (e : evalOp P T o g st = some r) : Goes P G o g r st a w lim := by
  have hx := h.ev x
  simp only [evalOp, ho] at e
  split at e
  · rename_i m hm
    cases e
    rw [hm] at hx
    obtain ⟨B, d, hR, hxa⟩ := hx
    exact goes_val h (v := a.eval x) (by simp [execOp, ho, hxa]) ⟨B, d, hR, hxa⟩
  · rename_i m hm
    cases e
    rw [hm] at hx
    obtain ⟨B, o', vs, hxa, h3⟩ := hx
    exact goes_val h (v := a.eval x) (by simp [execOp, ho, hxa]) ⟨B, o', vs, hxa, h3⟩
  · rename_i m hm
    cases e
    rw [hm] at hx
    obtain ⟨vs, hxa, h3⟩ := hx
    exact goes_val h (v := a.eval x) (by simp [execOp, ho, hxa]) ⟨vs, hxa, h3⟩
  · cases e

theorem op_field (h : SR G st a w ok R lim) {s : TypeId} {x : Operand} {f : Nat} (ho : o.op = .field s x f) (e : evalOp P T o g st = some r) : Goes P G o g r st a w lim := by
  have hx := h.ev x
  simp only [evalOp, ho] at e
  split at e
  · rename_i fields hu
    split at e
    · rename_i fd cs hf hm
      split at e
      · rename_i v hv
        cases e
        rw [hm] at hx
        obtain ⟨vs, hxa, hvs⟩ := hx
        have hd := hvs.drop fd.offset
        unfold takeT at hv
        split at hv
        · rename_i n ha hn
          split at hv
          · rename_i hle
            cases hv
            refine goes_val h (v := .agg ((vs.drop fd.offset).take n).toArray) ?_ ⟨_, rfl, hd.take n⟩
            simp [execOp, ho, Instr.field, run_underlying hu, hf, hxa, asAgg, part, run_isAgg' ha, run_sizeOf' hn]
          · cases hv
        · rename_i n ha hn
          split at hv
          · rename_i c cs' hc
            cases hv
            rw [hc] at hd
            obtain ⟨v0, vt, he, h1, h2⟩ := hd
            refine goes_val h (v := v0) ?_ h1
            have : vs[fd.offset]? = some v0 := by
              have := congrArg (·[0]?) he
              simpa using this
            simp [execOp, ho, Instr.field, run_underlying hu, hf, hxa, asAgg, part, run_isAgg' ha, this]
          · cases hv
        · cases hv
      · cases e
    · cases e
  · cases e

theorem intOf?_sound {m : MV} {x : Value} {n : Int} (hv : VR w ok R m x) (e : intOf? m = some n) : ∃ k, x = .int k n := by
  unfold intOf? at e
  split at e
  · rename_i k n'
    cases e
    exact ⟨k, hv⟩
  · cases e

theorem op_indexAddr (h : SR G st a w ok R lim) {t : TypeId} {x i : Operand} (ho : o.op = .indexAddr t x i) (e : evalOp P T o g st = some r) : Goes P G o g r st a w lim := by
  have hx := h.ev x
  simp only [evalOp, ho] at e
  split at e
  · rename_i el n hu hn
    obtain ⟨k, hi⟩ := intOf?_sound (h.ev i) hn
    split at e
    · rename_i sz len cap cs hs hm
      split at e
      · rename_i hh
        obtain ⟨h0, h1, hne⟩ := hh
        cases e
        rw [hm] at hx
        obtain ⟨aa, c, hxa, _, _, hb⟩ := hx
        rcases hb with ⟨_, hb, _⟩ | ⟨b, o', vs, rfl, hb, hc, hvs⟩
        · exact absurd hb hne
        refine goes_val h (v := .pointer (some ⟨b, o' + n.toNat * sz, none⟩)) ?_ ⟨b, _, vs.drop (n.toNat * sz), rfl, hb, ?_, hvs.drop _⟩
        · simp [execOp, ho, Instr.indexAt, hi, asIntOf, run_underlying hu, hxa, h0, h1, run_sizeOf' hs, add_addr]
        · intro j hj
          simp only [List.length_drop] at hj
          rw [List.getElem?_drop, Nat.add_assoc]
          exact hc _ (by omega)
      · cases e
    · rename_i sz nm gen off len cap sz' hs hm
      split at e
      · rename_i hh
        obtain ⟨h0, h1, hsz⟩ := hh
        cases e
        rw [hm] at hx
        obtain ⟨B, d, c, hR, hxa, _⟩ := hx
        refine goes_val h (v := .pointer (some ⟨B, d + (off + n.toNat * sz), none⟩)) ?_ ⟨B, d, hR, rfl⟩
        simp [execOp, ho, Instr.indexAt, hi, asIntOf, run_underlying hu, hxa, h0, h1, run_sizeOf' hs, add_addr, Nat.add_assoc]
      · cases e
    · cases e
  · rename_i len el n hu hn
    obtain ⟨k, hi⟩ := intOf?_sound (h.ev i) hn
    split at e
    · rename_i sz nm gen off hs hm
      split at e
      · rename_i hh
        obtain ⟨h0, h1⟩ := hh
        cases e
        rw [hm] at hx
        obtain ⟨B, d, hR, hxa⟩ := hx
        refine goes_val h (v := .pointer (some ⟨B, d + (off + n.toNat * sz), none⟩)) ?_ ⟨B, d, hR, rfl⟩
        simp [execOp, ho, Instr.indexAt, hi, asIntOf, run_underlying hu, hxa, Instr.sureAddr, h0, h1, run_sizeOf' hs, add_addr, Nat.add_assoc]
      · cases e
    · rename_i sz cs hs hm
      split at e
      · rename_i hh
        obtain ⟨h0, h1⟩ := hh
        cases e
        rw [hm] at hx
        obtain ⟨b, o', vs, hxa, hb, hc, hvs⟩ := hx
        refine goes_val h (v := .pointer (some ⟨b, o' + n.toNat * sz, none⟩)) ?_ ⟨b, _, vs.drop (n.toNat * sz), rfl, hb, ?_, hvs.drop _⟩
        · simp [execOp, ho, Instr.indexAt, hi, asIntOf, run_underlying hu, hxa, Instr.sureAddr, h0, h1, run_sizeOf' hs, add_addr]
        · intro j hj
          simp only [List.length_drop] at hj
          rw [List.getElem?_drop, Nat.add_assoc]
          exact hc _ (by omega)
      · cases e
    · cases e
  · cases e

theorem op_extract (h : SR G st a w ok R lim) {x : Operand} {i : Nat} (ho : o.op = .extract x i) (e : evalOp P T o g st = some r) : Goes P G o g r st a w lim := by
  have hx := h.ev x
  simp only [evalOp, ho] at e
  split at e
  · rename_i vs hm
    split at e
    · rename_i v hv
      cases e
      rw [hm] at hx
      obtain ⟨us, hxa, hus⟩ := hx
      obtain ⟨u, hu, hr⟩ := hus.get i v hv
      exact goes_val h (v := u) (by simp [execOp, ho, Instr.extract, hxa, hu]) hr
    · cases e
  · cases e

theorem ev_list (h : SR G st a w ok R lim) : ∀ (l : List Operand), VRs w ok R (l.map st.ev) (l.map a.eval)
  | [] => VRs.nil
  | x :: l => VRs.cons (h.ev x) (ev_list h l)

theorem op_makeFunc (h : SR G st a w ok R lim) {f : FuncId} {caps : Array Operand} (ho : o.op = .makeFunc (.func f) ⟨[]⟩ caps) (e : evalOp P T o g st = some r) : Goes P G o g r st a w lim := by
  simp only [evalOp, ho] at e
  cases e
  refine goes_val h (v := .func (.func f) #[] (caps.map a.eval)) (by simp [execOp, ho, Instr.makeFunc]) ⟨(caps.toList.map a.eval), ?_, ev_list h _⟩
  congr 1
  apply Array.ext'
  simp

theorem op_pure (h : SR G st a w ok R lim) (hs : ∀ cs b, o.op ≠ .select cs b) (e : (pureOp P o st.ev).map (fun v => ({ val := v } : Res)) = some r) : Goes P G o g r st a w lim := by
  obtain ⟨m, hm, rfl⟩ := Option.map_eq_some_iff.1 e
  obtain ⟨v, hv, hr⟩ := pureOp_sound h hs hm
  exact goes_val h hv hr
end Go.Proofs.Ytkeelkeoijemiaa.Ev
