/- Slices of slices, len, append. -/
import Derived.Test.YtkeelkeoijemiaaEvG
import Derived.Deep.AppendSrc
namespace Go.Proofs.Ytkeelkeoijemiaa.Ev
open Go Go.RowKit

variable {P : Program} {T : Tab} {G : Gh} {st : St} {a : Act} {w : World} {ok : Nat → Prop} {R : Nat → Nat → Option (Nat × Nat)} {lim : Nat → Prop} {o : Oper} {g : Nat} {r : Res}

theorem op_slice (h : SR G st a w ok R lim) {t el : TypeId} {x : Operand} {lo hi mx : Option Operand} (ho : o.op = .slice t x lo hi mx) (hu : P.underlying t = some (.slice el)) (e : evalOp P T o g st = some r) :
    Goes P G o g r st a w lim := by
  have hx := h.ev x
  simp only [evalOp, ho, hu] at e
  split at e
  · cases e
  · rename_i hnm
    split at e
    · rename_i sz len cap hs hp
      split at e
      · rename_i hN hh
        split at e
        · rename_i lN mN hl hm
          split at e
          · rename_i hall
            have hle : ∀ k, mN = some k → hN ≤ k := fun k hk => by subst hk; simpa using hall
            have hnm' : mx ≠ none → hi ≠ none := by
              intro h1 h2; apply hnm; subst h2
              cases mx with
              | none => exact absurd rfl h1
              | some _ => rfl
            have hxs : ∃ aa c, a.eval x = .slice aa len c ∧ len ≤ c ∧ (∀ k, cap = some k → c = k) := by
              cases hm0 : st.ev x with
              | fs l c cs => rw [hm0] at hp hx; simp [sliceParts] at hp; obtain ⟨rfl, rfl⟩ := hp; obtain ⟨aa, c, h1, h2, h3, _⟩ := hx; exact ⟨aa, c, h1, h2, h3⟩
              | row nm g off l c sz' => rw [hm0] at hp hx; simp [sliceParts] at hp; obtain ⟨rfl, rfl⟩ := hp; obtain ⟨B, d, c, _, h1, h2, h3, _⟩ := hx; exact ⟨_, c, h1, h2, h3⟩
              | _ => rw [hm0] at hp; simp [sliceParts] at hp
            obtain ⟨aa, c, hxa, hlc, hcc⟩ := hxs
            obtain ⟨m, hr, b1, b2, b3, b4, b5, b6⟩ := bounds_sound (P := P) h hlc hcc hh hl hm hle hnm'
            have hrun : (execOp a.eval o).run P w = .ok (.value (.slice (if m = lN then aa else aa.map (·.add (lN * sz))) (hN - lN) (m - lN))) w := by
              simp only [execOp, ho, Instr.sliceAt, Sem.run_bind, run_underlying hu, Result.andThen_ok, Instr.slice, hxa, hr, run_sizeOf' hs, Sem.run_pure]
            have hcap : ∀ k, (match mN with | some m => some (m - lN) | none => cap.map (· - lN)) = some k → m - lN = k := by
              intro k hk
              cases mN with
              | some q => simp at hk; have := b5 q rfl; omega
              | none =>
                cases cap with
                | none => cases hk
                | some q => simp at hk; have := b6 rfl; have := hcc q rfl; omega
            unfold sliceOf at e
            split at e
            · rename_i l0 c0 cs hm0
              rw [← Option.some.inj e]
              rw [hm0] at hx hp
              simp [sliceParts] at hp; obtain ⟨rfl, rfl⟩ := hp
              obtain ⟨aa', c', h1, h2, h3, h4⟩ := hx
              rw [hxa] at h1; cases h1
              refine goes_val h hrun ⟨_, m - lN, rfl, by omega, hcap, ?_⟩
              by_cases hhl : hN = lN
              · left
                refine ⟨by omega, by simp [hhl], fun hn => ?_⟩
                rcases h4 with ⟨h4, _, h5⟩ | ⟨b, o', vs, h4, _⟩
                · subst h4
                  split at hn
                  · omega
                  · cases aa with
                    | none => have := h5 rfl; omega
                    | some _ => simp at hn
                · subst h4; split at hn <;> simp at hn
              · right
                have hml : m ≠ lN := by omega
                rcases h4 with ⟨h4, _, h5⟩ | ⟨b, o', vs, rfl, hb, hc, hvs⟩
                · omega
                · refine ⟨b, o' + lN * sz, (vs.drop (lN * sz)).take ((hN - lN) * sz), by rw [if_neg hml]; simp [add_addr], hb, ?_, (hvs.drop _).take _⟩
                  intro i hi
                  simp only [List.length_take, List.length_drop] at hi
                  rw [List.getElem?_take_of_lt (by omega), List.getElem?_drop, Nat.add_assoc]
                  exact hc _ (by omega)
            · rename_i nm gen off l0 c0 sz' hm0
              split at e
              · rename_i hsz
                rw [← Option.some.inj e]
                rw [hm0] at hx hp
                simp [sliceParts] at hp; obtain ⟨rfl, rfl⟩ := hp
                obtain ⟨B, d, c', hR, h1, h2, h3, h4⟩ := hx
                rw [hxa] at h1; cases h1
                by_cases hhl : hN = lN
                · simp only [hhl, if_true]
                  refine goes_val h hrun ⟨_, m - lN, by rw [show hN - lN = 0 from by omega], by omega, hcap, .inl ⟨rfl, rfl, fun hn => ?_⟩⟩
                  split at hn <;> simp at hn
                · simp only [hhl, if_false]
                  have hml : m ≠ lN := by omega
                  refine goes_val h hrun ⟨B, d, m - lN, hR, by rw [if_neg hml]; simp [add_addr, Nat.add_assoc], by omega, hcap, fun hg => ?_⟩
                  obtain ⟨c1, el1, fr, k1, k2⟩ := h4 hg
                  refine ⟨c1, el1, fr, k1, ?_⟩
                  subst hsz
                  have e1 : lN * sz' + (m - lN) * sz' = m * sz' := by rw [← Nat.add_mul]; congr 1; omega
                  have e2 : m * sz' ≤ c * sz' := Nat.mul_le_mul_right _ b3
                  omega
              · cases e
            · cases e
          · cases e
        · cases e
      · cases e
    · cases e

theorem op_len (h : SR G st a w ok R lim) {c : Call} (ho : o.op = .call c) (hcal : c.callee = .builtin .len) (e : evalOp P T o g st = some r) : Goes P G o g r st a w lim := by
  have he := e
  simp only [evalOp, ho, hcal] at e
  split at e
  · rename_i x t hargs htys
    have ha : c.args = #[x] := by rw [← Array.toArray_toList (xs := c.args), hargs]
    have ht : c.argTypes = #[t] := by rw [← Array.toArray_toList (xs := c.argTypes), htys]
    split at e
    · rename_i el hu
      obtain ⟨m, hm, rfl⟩ := Option.map_eq_some_iff.1 e
      have hx := h.ev x
      have : ∃ aa n cc, a.eval x = .slice aa n cc ∧ m = .sc (.int .i64 n) := by
        cases hm0 : st.ev x with
        | fs l c cs => rw [hm0] at hm hx; simp [evalLen] at hm; obtain ⟨aa, c, h1, _⟩ := hx; exact ⟨aa, _, c, h1, hm.symm⟩
        | row nm g off l c sz' => rw [hm0] at hm hx; simp [evalLen] at hm; obtain ⟨B, d, c, _, h1, _⟩ := hx; exact ⟨_, _, c, h1, hm.symm⟩
        | _ => rw [hm0] at hm; simp [evalLen] at hm
      obtain ⟨aa, n, cc, hxa, rfl⟩ := this
      refine goes_val h (v := .int .i64 n) ?_ rfl
      simp [execOp, ho, resolve, hcal, ha, ht, invoke, builtin, Builtin.len_, run_underlying hu, hxa, goInt]
    · exact op_pure h (fun cs b => by rw [ho]; simp) e
    · rename_i n el hu
      cases e
      refine goes_val h (v := .int .i64 n) ?_ rfl
      simp [execOp, ho, resolve, hcal, ha, ht, invoke, builtin, Builtin.len_, run_underlying hu, goInt]
    · cases e
  · cases e

theorem SR.drew (h : SR G st a w ok R lim) : SR G st a w.drew ok R lim := by
  have hx : Ext ok w w.drew := ⟨fun _ _ => rfl, fun _ _ h => h⟩
  refine { h with slots := VRs.mono hx (fun _ h => h) (fun _ _ _ h => h) _ _ h.slots, os := h.os, tape := h.tape, output := h.output, size := h.size, low := h.low, ioK := h.ioK, okLt := h.okLt, ents := ?_ }
  intro nm e he
  obtain ⟨B, d, hE⟩ := h.ents nm e he
  exact ⟨B, d, hE.keep hx (fun _ h => h) (fun _ _ _ h => h) rfl hE.own⟩

theorem cells_list {B o' : Nat} {vs : List Value} (hc : CellsAt w B o' vs) : ∀ j v, vs[j]? = some v → w.cell? ((⟨B, o', none⟩ : Addr).add j) = some v := by
  intro j v hv
  have hj : j < vs.length := by
    rcases Nat.lt_or_ge j vs.length with h | h
    · exact h
    · rw [List.getElem?_eq_none h] at hv; cases hv
  rw [add_addr, hc j hj, hv]

/-- A slice's cells, loaded. -/
theorem row_sound (h : SR G st a w ok R lim) {m : MV} {x : Value} {n : Nat} {cs : List MV} (e : rowCells st.ent m = some (n, cs)) (hv : VR w ok R m x) {sz : Nat} (hl : cs.length = n * sz) :
    ∃ aa c vs, x = .slice aa n c ∧ VRs w ok R cs vs ∧ ∀ w2 : World, w2.heap = w.heap → (Builtin.firstCells sz n x).run P w2 = .ok vs.toArray w2 := by
  cases m with
  | fs len cap c =>
    simp only [rowCells, Option.some.injEq, Prod.mk.injEq] at e; obtain ⟨rfl, rfl⟩ := e
    obtain ⟨aa, cc, rfl, h1, h2, h3⟩ := hv
    rcases h3 with ⟨rfl, rfl, h4⟩ | ⟨b, o', vs, rfl, hb, hc, hvs⟩
    · refine ⟨aa, cc, [], rfl, VRs.nil, fun w2 _ => ?_⟩
      cases aa with
      | none => simp [Builtin.firstCells]
      | some p =>
        have := run_loadCells_list (P := P) w2 p [] (by simp)
        simpa [Builtin.firstCells] using this
    · have hvs' := VRs.mono (R' := R) (Ext.refl _ _) (fun _ h => h) (fun _ _ _ h => by cases h) _ _ hvs
      refine ⟨_, cc, vs, rfl, hvs', fun w2 hw => ?_⟩
      have hc2 : CellsAt w2 b o' vs := fun i hi => by have := hc i hi; simp only [World.cell?, hw] at this ⊢; exact this
      have := run_loadCells_list (P := P) w2 ⟨b, o', none⟩ vs (cells_list hc2)
      rw [hvs.length, hl] at this
      simpa [Builtin.firstCells] using this
  | row nm g off len cap sz' =>
    simp only [rowCells] at e
    split at e
    · rename_i en he
      split at e
      · rename_i hh
        simp only [Option.some.injEq, Prod.mk.injEq] at e; obtain ⟨rfl, rfl⟩ := e
        obtain ⟨B, d, c, hR, rfl, h1, h2, _⟩ := hv
        obtain ⟨B', d', hE⟩ := h.ents nm en he
        have := Option.some.inj ((hh.1 ▸ hR).symm.trans hE.at_); cases this
        obtain ⟨c0, el, vs, hB, hvs, hcv, _⟩ := hE.body
        have hvl := hvs.length
        refine ⟨_, c, (vs.drop off).take (len * sz'), rfl, (hvs.drop _).take _, fun w2 hw => ?_⟩
        have hc2 : CellsAt w2 B (d + off) ((vs.drop off).take (len * sz')) := by
          intro i hi
          simp only [List.length_take, List.length_drop] at hi
          have hi1 : i < len * sz' := Nat.lt_of_lt_of_le hi (Nat.min_le_left _ _)
          have hi2 : i < vs.length - off := Nat.lt_of_lt_of_le hi (Nat.min_le_right _ _)
          rw [List.getElem?_take_of_lt hi1, List.getElem?_drop]
          simp only [World.cell?, hw, hB, Nat.add_assoc]
          exact hcv (off + i) (by omega)
        have hr := run_loadCells_list (P := P) w2 ⟨B, d + off, none⟩ _ (cells_list hc2)
        have hlen : ((vs.drop off).take (len * sz')).length = len * sz := by
          rw [← hl]; simp only [List.length_take, List.length_drop, hvl]
        rw [hlen] at hr
        simpa [Builtin.firstCells] using hr
      · cases e
    · cases e
  | _ => simp [rowCells] at e

theorem src_sound (h : SR G st a w ok R lim) {m : MV} {x : Value} {n : Nat} {cs : List MV} (e : srcCells st.ent m = some (n, cs)) (hv : VR w ok R m x) {sz : Nat} (hl : cs.length = n * sz) :
    ∃ vs, VRs w ok R cs vs ∧ (∀ w2 : World, (Builtin.lenOf x).run P w2 = .ok n w2) ∧ ∀ w2 : World, w2.heap = w.heap → (Builtin.firstCells sz n x).run P w2 = .ok vs.toArray w2 := by
  unfold srcCells at e
  split at e
  · rename_i s
    simp only [Option.some.injEq, Prod.mk.injEq] at e; obtain ⟨rfl, rfl⟩ := e
    obtain rfl : x = .string s := hv
    refine ⟨s.data.toList.map fun b => .int .u8 b.toNat, ?_, fun w2 => rfl, fun w2 _ => ?_⟩
    · exact VRs.map_of _ fun b _ => rfl
    · simp only [Builtin.firstCells, Sem.run_pure]
      congr 1
      have : s.extract 0 s.size = s := ByteArray.extract_zero_size
      rw [this]
      apply Array.ext'
      simp
  · obtain ⟨aa, c, vs, rfl, h1, h2⟩ := row_sound h e hv hl
    exact ⟨vs, h1, fun _ => rfl, h2⟩

theorem growBy_le (newLen : Nat) : ∀ (k c : Nat), c ≤ 2 * newLen + 1000 → Builtin.growBy newLen k c ≤ 2 * newLen + 1000
  | 0, c, h => h
  | k + 1, c, h => by
    unfold Builtin.growBy
    split
    · exact h
    · exact growBy_le newLen k _ (by omega)
theorem nextslicecap_le {n c : Nat} (h : c < n) : Builtin.nextslicecap n c ≤ 2 * n + 1000 := by
  unfold Builtin.nextslicecap
  split
  · omega
  · split
    · omega
    · exact growBy_le n 4 c (by omega)

theorem append_room (w : World) (t tx ty e : TypeId) (i : TypeInfo) (ht : P.underlying t = some (.slice e)) (hi : P.info? e = some i) (b off sLen sCap : Nat) (x : Value) (n : Nat) (news : List Value) (hs : Src P i.size tx x n news w)
    (cur : Array Value) (et : TypeId) (hg : w.heap[b]? = some (.cells cur et (0, 0))) (hroom : sLen + n ≤ sCap) (hfit : off + sLen * i.size + news.length ≤ cur.size) :
    (Builtin.append_ #[t, tx] ty #[.slice (some ⟨b, off, none⟩) sLen sCap, x]).run P w = .ok (.slice (some ⟨b, off, none⟩) (sLen + n) sCap)
      (w.setRow b (cur.toList.take (off + sLen * i.size) ++ news ++ cur.toList.drop (off + sLen * i.size + news.length)).toArray) := by
  have hst := run_storeCells_at P b (off + sLen * i.size) et news 0 cur w hg (by simpa using hfit) hs.one
  simp only [Nat.add_zero] at hst
  rcases hs.kind with ⟨e', hk⟩ | hk <;> simp [Builtin.append_, run_underlying ht, run_underlying hk, sizeOf, typeInfo, hi, hs.len, hroom, hs.cells, Addr.add_lit, hst]

theorem zero_info {t : TypeId} {z : List Value} (h : zeroO P t = some z) : ∃ i v, P.info? t = some i ∧ i.zero = some v ∧ v.cells.toList = z := by
  unfold zeroO at h
  obtain ⟨v, hv, rfl⟩ := Option.map_eq_some_iff.1 h
  obtain ⟨i, hi, hz⟩ := Option.bind_eq_some_iff.1 hv
  exact ⟨i, v, hi, hz, rfl⟩

theorem put_get {c : Array Value} {vs : List Value} {lo : Nat} (h : lo + vs.length ≤ c.size) :
    (c.toList.take lo ++ vs ++ c.toList.drop (lo + vs.length)).toArray.size = c.size ∧ (∀ i, (i < lo ∨ lo + vs.length ≤ i) → (c.toList.take lo ++ vs ++ c.toList.drop (lo + vs.length)).toArray[i]? = c[i]?) ∧
      ∀ i, i < vs.length → (c.toList.take lo ++ vs ++ c.toList.drop (lo + vs.length)).toArray[lo + i]? = vs[i]? := by
  have hlc : c.toList.length = c.size := by simp
  refine ⟨by simp only [List.size_toArray, List.length_append, List.length_take, List.length_drop]; omega, fun i hi => ?_, fun i hi => ?_⟩
  · simp only [List.getElem?_toArray]
    rcases hi with hi | hi
    · rw [List.append_assoc, List.getElem?_append_left (by rw [List.length_take]; omega), List.getElem?_take_of_lt hi]; simp
    · rw [List.getElem?_append_right (by rw [List.length_append, List.length_take]; omega), List.getElem?_drop, List.length_append, List.length_take]
      have : lo + vs.length + (i - (min lo c.toList.length + vs.length)) = i := by omega
      rw [this]; simp
  · simp only [List.getElem?_toArray]
    rw [List.append_assoc, List.getElem?_append_right (by rw [List.length_take]; omega), List.length_take, List.getElem?_append_left (by omega)]
    congr 1; omega

theorem op_append (hG : G.ok) (h : SR G st a w ok R lim) (hg : g ≠ 0) (hR : ∀ n, R n g = none) {c : Call} (ho : o.op = .call c) (hcal : c.callee = .builtin .append) (e : evalOp P T o g st = some r) : Goes P G o g r st a w lim := by
  simp only [evalOp, ho, hcal] at e
  split at e
  · rename_i s x t t2 trest d hargs htys hd
    have ha : c.args = #[s, x] := by rw [← Array.toArray_toList (xs := c.args), hargs]
    have key : ∀ el, P.underlying t = some (.slice el) → ((∃ e', P.underlying t2 = some (.slice e')) ∨ P.underlying t2 = some .string) → evalAppend P d g st.ent el (st.ev s) (st.ev x) = some r → Goes P G o g r st a w lim := by
      intro el hu hu2 e
      have hty : c.argTypes[0]? = some t ∧ c.argTypes[1]? = some t2 := by
        rw [← Array.toArray_toList (xs := c.argTypes), htys]; simp
      have hexec : ∀ (v : Value) (w' : World), (Builtin.append_ #[t, t2] o.type #[a.eval s, a.eval x]).run P w = .ok v w' → (execOp a.eval o).run P w = .ok (.value v) w' := by
        intro v w' hr
        have : Builtin.append_ c.argTypes o.type #[a.eval s, a.eval x] = Builtin.append_ #[t, t2] o.type #[a.eval s, a.eval x] := by
          unfold Builtin.append_
          simp only [hty.1, hty.2]
          rfl
        simp only [execOp, ho, resolve, hcal, ha, Sem.run_bind, Sem.run_pure, Result.andThen_ok, invoke, builtin]
        simp only [List.map_toArray, List.map_cons, List.map_nil, this, hr, Result.andThen_ok]
      unfold evalAppend at e
      split at e
      · rename_i sz by_ z n new hs hb hz hsrc
        split at e
        · cases e
        · rename_i hcond
          have c1 : new.length = n * sz := by by_cases h : new.length = n * sz; exact h; exact absurd (.inl h) hcond
          have c2 : new.all cellOk = true := by
            cases hh : new.all cellOk with
            | true => rfl
            | false => exact absurd (.inr (.inl hh)) hcond
          have c3 : z.length = sz := by by_cases h : z.length = sz; exact h; exact absurd (.inr (.inr (.inl h))) hcond
          have c4 : sz ≠ 0 := fun h => hcond (.inr (.inr (.inr (.inl h))))
          have c5 : by_ ≠ 0 := fun h => hcond (.inr (.inr (.inr (.inr (.inl h)))))
          have c6 : by_ ≤ 65536 := by by_cases h : by_ ≤ 65536; exact h; exact absurd (.inr (.inr (.inr (.inr (.inr (by omega)))))) hcond
          obtain ⟨i, zv, hi, hzv, hzl⟩ := zero_info hz
          have hisz : i.size = sz := by unfold szO at hs; rw [hi] at hs; simpa using hs
          have hib : i.bytes = by_ := by unfold bytesO at hb; rw [hi] at hb; simpa using hb
          obtain ⟨news, hnews, hlen, hcells⟩ := src_sound (P := P) h hsrc (h.ev x) c1
          have hnl := hnews.length
          have hone := cellsOk_sound hnews c2
          have hS : Src P i.size t2 (a.eval x) n news w := ⟨hu2, hlen, by rw [hisz]; exact hcells w rfl, by rw [hisz]; exact hcells w.drew rfl, by rw [hisz, hnl, c1], hone⟩
          -- a fresh row
          have fresh : ∀ (base : Option Addr) (len cc : Nat) (cs : List MV) (olds : List Value) (kill : List (Nat × Option Ent)) (rd : List Nat), a.eval s = .slice base len cc → VRs w ok R cs olds → cs.length = len * sz →
              (Builtin.firstCells sz len (.slice base len cc)).run P w.drew = .ok olds.toArray w.drew → cc < len + n → len + n ≤ 1073741824 → (∀ x ∈ kill, x.2 = none) →
              Goes P G o g { val := .row d g 0 (len + n) none sz, upd := kill ++ [(d, some ⟨g, cs ++ new, false⟩)], rd := rd } st a w lim := by
            intro base len cc cs olds kill rd hsv hvo hcl hfc hlt hsm hkill
            have hnx := nextslicecap_le hlt
            have hm : Builtin.nextslicecap (len + n) cc * i.bytes ≤ 281474976710656 := by
              have h2 : Builtin.nextslicecap (len + n) cc ≤ 2147484648 := by omega
              have h3 : i.bytes ≤ 65536 := by omega
              exact Nat.le_trans (Nat.mul_le_mul h2 h3) (by decide)
            have hr := run_append_grow_src w t t2 o.type el i zv hu hi hzv base len cc olds (by rw [hisz]; exact hfc) (a.eval x) n news hS hlt (by omega) hm
            rw [← hsv] at hr
            have hcap := grownCap_ge w (len + n) cc el
            have hd2 := h.drew
            have hol := hvo.length
            refine ⟨_, _, _, hexec _ _ hr, .inl rfl, ok, addR R d g (w.heap.size, 0), ?_⟩
            have := hd2.new (m := .row d g 0 (len + n) none sz) (v := .slice (some ⟨w.heap.size, 0, none⟩) (len + n) (grownCap w (len + n) cc el)) o.dst hg (hR d) (cells := cs ++ new) (vs := olds ++ news)
              ((olds ++ news).toArray ++ Builtin.zeroCells zv.cells (grownCap w (len + n) cc el - (len + n))) el
              (VRs.mono (Ext.refl _ _) (fun _ h => h) (fun _ _ _ h => h) _ _ (VRs.mono (w := w) (w' := w.drew) ⟨fun _ _ => rfl, fun _ _ h => h⟩ (fun _ h => h) (fun _ _ _ h => h) _ _ (hvo.append hnews)))
              (fun j hj => by rw [Array.getElem?_append_left (by simpa using hj)]; simp) kill hkill rd
              ⟨w.heap.size, 0, grownCap w (len + n) cc el, addR_self, rfl, hcap, (fun k hk => by cases hk), fun _ => ⟨_, el, (0, 0), heap_alloc_self _ _, by
                have hzs : zv.cells.size = sz := by rw [← c3, ← hzl]; simp
                simp only [Array.size_append, List.size_toArray, List.length_append, size_zeroCells, hzs, hol, hcl, hnl, c1]
                have e1 : len * sz + n * sz + (grownCap w (len + n) cc el - (len + n)) * sz = grownCap w (len + n) cc el * sz := by
                  rw [← Nat.add_mul, ← Nat.add_mul]; congr 1; omega
                omega⟩⟩
            exact this
          have hsx := h.ev s
          split at e
          · rename_i len c0 cs hm
            rw [hm] at hsx
            obtain ⟨base, cc, hsv, hl, hk, hcs⟩ := hsx
            have hcc := hk c0 rfl
            subst hcc
            split at e
            · rename_i hh
              cases e
              obtain ⟨_, _, olds, hx1, hvo, hfc⟩ := row_sound (P := P) (sz := sz) (n := len) (cs := cs) (m := .fs len (some cc) cs) h rfl (x := .slice base len cc) ⟨base, cc, rfl, hl, hk, hcs⟩ hh.2.1
              cases hx1
              exact fresh base len cc cs olds [] (nameOf (st.ev x)) hsv hvo hh.2.1 (hfc w.drew rfl) hh.1 hh.2.2 (by simp)
            · split at e
              · rename_i h0
                have hl0 : len = 0 := by omega
                have hn0 : n = 0 := by omega
                subst hl0 hn0
                cases e
                have hnil : news = [] := by apply List.eq_nil_of_length_eq_zero; rw [hnl, c1]; simp
                have hr : (Builtin.append_ #[t, t2] o.type #[a.eval s, a.eval x]).run P w = .ok (.slice base 0 cc) w := by
                  rw [hsv]
                  have hc0 := hS.cells
                  rw [hnil] at hc0
                  rcases hu2 with ⟨e', hk⟩ | hk
                  all_goals
                    cases base with
                    | none => simp [Builtin.append_, run_underlying hu, run_underlying hk, sizeOf, typeInfo, hi, hS.len, hc0]
                    | some p => simp [Builtin.append_, run_underlying hu, run_underlying hk, sizeOf, typeInfo, hi, hS.len, hc0, storeCells]
                refine goes_val h (hexec _ _ hr) ⟨base, cc, rfl, Nat.zero_le _, hk, .inl ⟨rfl, rfl, fun hb => ?_⟩⟩
                subst hb
                rcases hcs with ⟨_, _, hcs⟩ | ⟨b, o', vs, hb, _⟩
                · exact hcs rfl
                · cases hb
              · cases e
          · rename_i nm g' off len cap sz' hm
            rw [hm] at hsx
            obtain ⟨B, d0, cc, hRn, hsv, hl, hk, hcell⟩ := hsx
            split at e
            · rename_i en he
              split at e
              · rename_i hh
                obtain ⟨hgen, hg0, hfr, hsz, hend, hsm, _⟩ := hh
                subst hsz
                cases e
                obtain ⟨B', d', hE⟩ := h.ents nm en he
                have := Option.some.inj ((hgen ▸ hRn).symm.trans hE.at_); cases this
                obtain ⟨c0, el0, vs, hB, hvs, hcv, hcsz⟩ := hE.body
                have hvl := hvs.length
                by_cases hroom : len + n ≤ cc
                · -- in place
                  obtain ⟨c1', el1, fr1, hB1, hsize⟩ := hcell hg0
                  rw [hB] at hB1; cases hB1
                  have e1 : (len + n) * sz' ≤ cc * sz' := Nat.mul_le_mul_right _ hroom
                  rw [Nat.add_mul] at e1
                  have hfit : d0 + off + len * sz' + news.length ≤ c0.size := by rw [hnl, c1]; omega
                  have hr := append_room w t t2 o.type el i hu hi B (d0 + off) len cc (a.eval x) n news hS c0 el0 hB hroom (by rw [hisz]; exact hfit)
                  rw [← hsv, hisz] at hr
                  obtain ⟨p1, p2, p3⟩ := put_get hfit
                  generalize (c0.toList.take (d0 + off + len * sz') ++ news ++ c0.toList.drop (d0 + off + len * sz' + news.length)).toArray = c' at hr p1 p2 p3
                  have hx := Ext.setRow (ok := ok) hB p1 (hE.own hfr)
                  have hRo : ∀ n' g'' p, R n' g'' = some p → addR R d g (B, d0 + off) n' g'' = some p := addR_old (hR d)
                  have hE' : ER G (w.setRow B c') ok (addR R d g (B, d0 + off)) d ⟨g, en.cells.drop off ++ new, false⟩ B (d0 + off) := by
                    refine ⟨addR_self, ⟨c', el0, vs.drop off ++ news, setRow_heap _ _ _ _ _ _ hB, VRs.mono hx (fun _ h => h) hRo _ _ ((hvs.drop off).append hnews), ?_, ?_⟩, fun hf => Bool.noConfusion hf, fun _ => hE.own hfr, ?_, fun h0 => absurd h0 hg⟩
                    · intro j hj
                      simp only [List.length_append, List.length_drop] at hj
                      by_cases hj1 : j < vs.length - off
                      · rw [List.getElem?_append_left (by simpa using hj1), List.getElem?_drop, p2 _ (by omega), Nat.add_assoc]
                        exact hcv _ (by omega)
                      · rw [List.getElem?_append_right (by simp; omega), List.length_drop]
                        rw [show d0 + off + j = d0 + off + len * sz' + (j - (vs.length - off)) from by omega]
                        exact p3 _ (by omega)
                    · right; simp only [List.length_append, List.length_drop]; omega
                    · rcases hE.base with hb | hb
                      · exact .inl hb
                      · exact absurd (hgen ▸ hb) hg0
                  refine ⟨_, _, _, hexec _ _ hr, .inl rfl, ok, addR R d g (B, d0 + off), ?_⟩
                  refine h.write hG he hE hfr hB p1 (lo := d0 + off + len * sz') (hi := d0 + off + len * sz' + news.length) p2 (fun h0 => absurd (hgen ▸ h0) hg0) hRo ?_ hE' rfl ?_ ?_ (defers_put h.defers)
                  · intro n' g'' hne
                    unfold addR at hne
                    split at hne
                    · rename_i hh; exact .inr hh.2
                    · exact .inl (h.fresh _ _ hne)
                  · intro m y hy
                    rcases setUpd_some _ _ _ _ hy with h3 | ⟨h3, h4⟩
                    · simp at h3; exact .inl h3
                    · simp at h3; exact .inr ⟨h3.1, h3.2, h4⟩
                  · refine slots_put (VRs.mono hx (fun _ h => h) hRo _ _ h.slots) o.dst ⟨B, d0 + off, cc, addR_self, by simp, hroom, ?_, fun _ => hx.has _ _ ?_⟩
                    · intro k hk'
                      cases cap with
                      | none => cases hk'
                      | some q => have := hk q rfl; subst this; simp only [capIn, Option.bind_some, if_pos hroom] at hk'; cases hk'; rfl
                    · simpa using hcell hg0
                · have hcapn : capIn cap (len + n) = none := by
                    cases cap with
                    | none => rfl
                    | some q => have := hk q rfl; subst this; simp only [capIn, Option.bind_some, if_neg hroom]
                  rw [hcapn]
                  have hrow : rowCells st.ent (.row nm g' off len cap sz') = some (len, en.cells.drop off) := by
                    simp only [rowCells, he]
                    rw [if_pos ⟨hgen, by omega⟩, List.take_of_length_le (by simp; omega)]
                  obtain ⟨_, _, olds, hx1, hvo, hfc⟩ := row_sound (P := P) (sz := sz') h hrow (x := .slice (some ⟨B, d0 + off, none⟩) len cc) ⟨B, d0, cc, hRn, rfl, hl, hk, hcell⟩ (by simp; omega)
                  cases hx1
                  exact fresh _ len cc (en.cells.drop off) olds [(nm, none)] (nm :: nameOf (st.ev x)) hsv hvo (by simp; omega) (hfc w.drew rfl) (by omega) hsm (by simp)
              · cases e
            · cases e
          · cases e
      · cases e
    split at e
    · rename_i el e2 hu hu2
      exact key el (sliceO_sound hu) (.inl ⟨e2, hu2⟩) e
    · rename_i el hu hu2
      exact key el (sliceO_sound hu) (.inr hu2) e
    · cases e
  · cases e
end Go.Proofs.Ytkeelkeoijemiaa.Ev
