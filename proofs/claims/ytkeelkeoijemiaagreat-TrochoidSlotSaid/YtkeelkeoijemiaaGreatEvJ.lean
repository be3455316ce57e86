/- Slices of slices, len, append. Calls: by a table that tells what functions do. Regions and code. -/
import Derived.Test.YtkeelkeoijemiaaGreatEvG
import Derived.Deep.AppendSrc
set_option linter.unusedVariables false
set_option linter.unusedSimpArgs false
namespace Go.Proofs.YtkeelkeoijemiaaGreat.Ev
open Go Go.RowKit

variable {P : Program} {T : Tab} {G : Gh} {st : St} {a : Act} {w : World} {ok : Nat → Prop} {R : Nat → Nat → Option (Nat × Nat)} {lim : Nat → Prop} {o : Oper} {g : Nat} {r : Res}

theorem op_slice (h : SR G st a w ok R lim) {t el : TypeId} {x : Operand} {lo hi mx : Option Operand} (ho : o.op = .slice t x lo hi mx) (hu : P.underlying t = some (.slice el)) (e : evalOp P T o g st = some r) :
    Goes P G o g r st a w lim := by
  have hx := h.ev x
  simp only [evalOp, ho, hu] at e
  split at e
  · cases e
  · rename_i hnm
    split at e
    · rename_i sz len cap hs hp
      split at e
      · rename_i hN hh
        split at e
        · rename_i lN mN hl hm
          split at e
          · rename_i hall
            have hle : ∀ k, mN = some k → hN ≤ k := fun k hk => by subst hk; simpa using hall
            have hnm' : mx ≠ none → hi ≠ none := by
              intro h1 h2; apply hnm; subst h2
              cases mx with
              | none => exact absurd rfl h1
              | some _ => rfl
            have hxs : ∃ aa c, a.eval x = .slice aa len c ∧ len ≤ c ∧ (∀ k, cap = some k → c = k) := by
              cases hm0 : st.ev x with
              | fs l c cs => rw [hm0] at hp hx; simp [sliceParts] at hp; obtain ⟨rfl, rfl⟩ := hp; obtain ⟨aa, c, h1, h2, h3, _⟩ := hx; exact ⟨aa, c, h1, h2, h3⟩
              | row nm g off l c sz' => rw [hm0] at hp hx; simp [sliceParts] at hp; obtain ⟨rfl, rfl⟩ := hp; obtain ⟨B, d, c, _, h1, h2, h3, _⟩ := hx; exact ⟨_, c, h1, h2, h3⟩
              | _ => rw [hm0] at hp; simp [sliceParts] at hp
            obtain ⟨aa, c, hxa, hlc, hcc⟩ := hxs
            obtain ⟨m, hr, b1, b2, b3, b4, b5, b6⟩ := bounds_sound (P := P) h hlc hcc hh hl hm hle hnm'
            have hrun : (execOp a.eval o).run P w = .ok (.value (.slice (if m = lN then aa else aa.map (·.add (lN * sz))) (hN - lN) (m - lN))) w := by
              simp only [execOp, ho, Instr.sliceAt, Sem.run_bind, run_underlying hu, Result.andThen_ok, Instr.slice, hxa, hr, run_sizeOf' hs, Sem.run_pure]
            have hcap : ∀ k, (match mN with | some m => some (m - lN) | none => cap.map (· - lN)) = some k → m - lN = k := by
              intro k hk
              cases mN with
              | some q => simp at hk; have := b5 q rfl; omega
              | none =>
                cases cap with
                | none => cases hk
                | some q => simp at hk; have := b6 rfl; have := hcc q rfl; omega
            unfold sliceOf at e
            split at e
            · rename_i l0 c0 cs hm0
              rw [← Option.some.inj e]
              rw [hm0] at hx hp
              simp [sliceParts] at hp; obtain ⟨rfl, rfl⟩ := hp
              obtain ⟨aa', c', h1, h2, h3, h4⟩ := hx
              rw [hxa] at h1; cases h1
              refine goes_val h hrun ⟨_, m - lN, rfl, by omega, hcap, ?_⟩
              by_cases hhl : hN = lN
              · left
                refine ⟨by omega, by simp [hhl], fun hn => ?_⟩
                rcases h4 with ⟨h4, _, h5⟩ | ⟨b, o', vs, h4, _⟩
                · subst h4
                  split at hn
                  · omega
                  · cases aa with
                    | none => have := h5 rfl; omega
                    | some _ => simp at hn
                · subst h4; split at hn <;> simp at hn
              · right
                have hml : m ≠ lN := by omega
                rcases h4 with ⟨h4, _, h5⟩ | ⟨b, o', vs, rfl, hb, hc, hvs⟩
                · omega
                · refine ⟨b, o' + lN * sz, (vs.drop (lN * sz)).take ((hN - lN) * sz), by rw [if_neg hml]; simp [add_addr], hb, ?_, (hvs.drop _).take _⟩
                  intro i hi
                  simp only [List.length_take, List.length_drop] at hi
                  rw [List.getElem?_take_of_lt (by omega), List.getElem?_drop, Nat.add_assoc]
                  exact hc _ (by omega)
            · rename_i nm gen off l0 c0 sz' hm0
              split at e
              · rename_i hsz
                rw [← Option.some.inj e]
                rw [hm0] at hx hp
                simp [sliceParts] at hp; obtain ⟨rfl, rfl⟩ := hp
                obtain ⟨B, d, c', hR, h1, h2, h3, h4⟩ := hx
                rw [hxa] at h1; cases h1
                by_cases hhl : hN = lN
                · simp only [hhl, if_true]
                  refine goes_val h hrun ⟨_, m - lN, by rw [show hN - lN = 0 from by omega], by omega, hcap, .inl ⟨rfl, rfl, fun hn => ?_⟩⟩
                  split at hn <;> simp at hn
                · simp only [hhl, if_false]
                  have hml : m ≠ lN := by omega
                  refine goes_val h hrun ⟨B, d, m - lN, hR, by rw [if_neg hml]; simp [add_addr, Nat.add_assoc], by omega, hcap, fun hg => ?_⟩
                  obtain ⟨c1, el1, fr, k1, k2⟩ := h4 hg
                  refine ⟨c1, el1, fr, k1, ?_⟩
                  subst hsz
                  have e1 : lN * sz' + (m - lN) * sz' = m * sz' := by rw [← Nat.add_mul]; congr 1; omega
                  have e2 : m * sz' ≤ c * sz' := Nat.mul_le_mul_right _ b3
                  omega
              · cases e
            · cases e
          · cases e
        · cases e
      · cases e
    · cases e

theorem op_len (h : SR G st a w ok R lim) {c : Call} (ho : o.op = .call c) (hcal : c.callee = .builtin .len) (e : evalOp P T o g st = some r) : Goes P G o g r st a w lim := by
  have he := e
  simp only [evalOp, ho, hcal] at e
  split at e
  · rename_i x t hargs htys
    have ha : c.args = #[x] := by rw [← Array.toArray_toList (xs := c.args), hargs]
    have ht : c.argTypes = #[t] := by rw [← Array.toArray_toList (xs := c.argTypes), htys]
    split at e
    · rename_i el hu
      obtain ⟨m, hm, rfl⟩ := Option.map_eq_some_iff.1 e
      have hx := h.ev x
      have : ∃ aa n cc, a.eval x = .slice aa n cc ∧ m = .sc (.int .i64 n) := by
        cases hm0 : st.ev x with
        | fs l c cs => rw [hm0] at hm hx; simp [evalLen] at hm; obtain ⟨aa, c, h1, _⟩ := hx; exact ⟨aa, _, c, h1, hm.symm⟩
        | row nm g off l c sz' => rw [hm0] at hm hx; simp [evalLen] at hm; obtain ⟨B, d, c, _, h1, _⟩ := hx; exact ⟨_, _, c, h1, hm.symm⟩
        | _ => rw [hm0] at hm; simp [evalLen] at hm
      obtain ⟨aa, n, cc, hxa, rfl⟩ := this
      refine goes_val h (v := .int .i64 n) ?_ rfl
      simp [execOp, ho, resolve, hcal, ha, ht, invoke, builtin, Builtin.len_, run_underlying hu, hxa, goInt]
    · exact op_pure h (fun cs b => by rw [ho]; simp) e
    · rename_i n el hu
      cases e
      refine goes_val h (v := .int .i64 n) ?_ rfl
      simp [execOp, ho, resolve, hcal, ha, ht, invoke, builtin, Builtin.len_, run_underlying hu, goInt]
    · cases e
  · cases e

theorem SR.drew (h : SR G st a w ok R lim) : SR G st a w.drew ok R lim := by
  have hx : Ext ok w w.drew := ⟨fun _ _ => rfl, fun _ _ h => h⟩
  refine { h with slots := VRs.mono hx (fun _ h => h) (fun _ _ _ h => h) _ _ h.slots, os := h.os, tape := h.tape, output := h.output, size := h.size, low := h.low, ioK := h.ioK, okLt := h.okLt, ents := ?_ }
  intro nm e he
  obtain ⟨B, d, hE⟩ := h.ents nm e he
  exact ⟨B, d, hE.keep hx (fun _ h => h) (fun _ _ _ h => h) rfl hE.own⟩

theorem cells_list {B o' : Nat} {vs : List Value} (hc : CellsAt w B o' vs) : ∀ j v, vs[j]? = some v → w.cell? ((⟨B, o', none⟩ : Addr).add j) = some v := by
  intro j v hv
  have hj : j < vs.length := by
    rcases Nat.lt_or_ge j vs.length with h | h
    · exact h
    · rw [List.getElem?_eq_none h] at hv; cases hv
  rw [add_addr, hc j hj, hv]

/-- A slice's cells, loaded. -/
theorem row_sound (h : SR G st a w ok R lim) {m : MV} {x : Value} {n : Nat} {cs : List MV} (e : rowCells st.ent m = some (n, cs)) (hv : VR w ok R m x) {sz : Nat} (hl : cs.length = n * sz) :
    ∃ aa c vs, x = .slice aa n c ∧ VRs w ok R cs vs ∧ ∀ w2 : World, w2.heap = w.heap → (Builtin.firstCells sz n x).run P w2 = .ok vs.toArray w2 := by
  cases m with
  | fs len cap c =>
    simp only [rowCells, Option.some.injEq, Prod.mk.injEq] at e; obtain ⟨rfl, rfl⟩ := e
    obtain ⟨aa, cc, rfl, h1, h2, h3⟩ := hv
    rcases h3 with ⟨rfl, rfl, h4⟩ | ⟨b, o', vs, rfl, hb, hc, hvs⟩
    · refine ⟨aa, cc, [], rfl, VRs.nil, fun w2 _ => ?_⟩
      cases aa with
      | none => simp [Builtin.firstCells]
      | some p =>
        have := run_loadCells_list (P := P) w2 p [] (by simp)
        simpa [Builtin.firstCells] using this
    · have hvs' := VRs.mono (R' := R) (Ext.refl _ _) (fun _ h => h) (fun _ _ _ h => by cases h) _ _ hvs
      refine ⟨_, cc, vs, rfl, hvs', fun w2 hw => ?_⟩
      have hc2 : CellsAt w2 b o' vs := fun i hi => by have := hc i hi; simp only [World.cell?, hw] at this ⊢; exact this
      have := run_loadCells_list (P := P) w2 ⟨b, o', none⟩ vs (cells_list hc2)
      rw [hvs.length, hl] at this
      simpa [Builtin.firstCells] using this
  | row nm g off len cap sz' =>
    simp only [rowCells] at e
    split at e
    · rename_i en he
      split at e
      · rename_i hh
        simp only [Option.some.injEq, Prod.mk.injEq] at e; obtain ⟨rfl, rfl⟩ := e
        obtain ⟨B, d, c, hR, rfl, h1, h2, _⟩ := hv
        obtain ⟨B', d', hE⟩ := h.ents nm en he
        have := Option.some.inj ((hh.1 ▸ hR).symm.trans hE.at_); cases this
        obtain ⟨c0, el, vs, hB, hvs, hcv, _⟩ := hE.body
        have hvl := hvs.length
        refine ⟨_, c, (vs.drop off).take (len * sz'), rfl, (hvs.drop _).take _, fun w2 hw => ?_⟩
        have hc2 : CellsAt w2 B (d + off) ((vs.drop off).take (len * sz')) := by
          intro i hi
          simp only [List.length_take, List.length_drop] at hi
          have hi1 : i < len * sz' := Nat.lt_of_lt_of_le hi (Nat.min_le_left _ _)
          have hi2 : i < vs.length - off := Nat.lt_of_lt_of_le hi (Nat.min_le_right _ _)
          rw [List.getElem?_take_of_lt hi1, List.getElem?_drop]
          simp only [World.cell?, hw, hB, Nat.add_assoc]
          exact hcv (off + i) (by omega)
        have hr := run_loadCells_list (P := P) w2 ⟨B, d + off, none⟩ _ (cells_list hc2)
        have hlen : ((vs.drop off).take (len * sz')).length = len * sz := by
          rw [← hl]; simp only [List.length_take, List.length_drop, hvl]
        rw [hlen] at hr
        simpa [Builtin.firstCells] using hr
      · cases e
    · cases e
  | _ => simp [rowCells] at e

theorem src_sound (h : SR G st a w ok R lim) {m : MV} {x : Value} {n : Nat} {cs : List MV} (e : srcCells st.ent m = some (n, cs)) (hv : VR w ok R m x) {sz : Nat} (hl : cs.length = n * sz) :
    ∃ vs, VRs w ok R cs vs ∧ (∀ w2 : World, (Builtin.lenOf x).run P w2 = .ok n w2) ∧ ∀ w2 : World, w2.heap = w.heap → (Builtin.firstCells sz n x).run P w2 = .ok vs.toArray w2 := by
  unfold srcCells at e
  split at e
  · rename_i s
    simp only [Option.some.injEq, Prod.mk.injEq] at e; obtain ⟨rfl, rfl⟩ := e
    obtain rfl : x = .string s := hv
    refine ⟨s.data.toList.map fun b => .int .u8 b.toNat, ?_, fun w2 => rfl, fun w2 _ => ?_⟩
    · exact VRs.map_of _ fun b _ => rfl
    · simp only [Builtin.firstCells, Sem.run_pure]
      congr 1
      have : s.extract 0 s.size = s := ByteArray.extract_zero_size
      rw [this]
      apply Array.ext'
      simp
  · obtain ⟨aa, c, vs, rfl, h1, h2⟩ := row_sound h e hv hl
    exact ⟨vs, h1, fun _ => rfl, h2⟩

theorem growBy_le (newLen : Nat) : ∀ (k c : Nat), c ≤ 2 * newLen + 1000 → Builtin.growBy newLen k c ≤ 2 * newLen + 1000
  | 0, c, h => h
  | k + 1, c, h => by
    unfold Builtin.growBy
    split
    · exact h
    · exact growBy_le newLen k _ (by omega)
theorem nextslicecap_le {n c : Nat} (h : c < n) : Builtin.nextslicecap n c ≤ 2 * n + 1000 := by
  unfold Builtin.nextslicecap
  split
  · omega
  · split
    · omega
    · exact growBy_le n 4 c (by omega)

theorem append_room (w : World) (t tx ty e : TypeId) (i : TypeInfo) (ht : P.underlying t = some (.slice e)) (hi : P.info? e = some i) (b off sLen sCap : Nat) (x : Value) (n : Nat) (news : List Value) (hs : Src P i.size tx x n news w)
    (cur : Array Value) (et : TypeId) (hg : w.heap[b]? = some (.cells cur et (0, 0))) (hroom : sLen + n ≤ sCap) (hfit : off + sLen * i.size + news.length ≤ cur.size) :
    (Builtin.append_ #[t, tx] ty #[.slice (some ⟨b, off, none⟩) sLen sCap, x]).run P w = .ok (.slice (some ⟨b, off, none⟩) (sLen + n) sCap)
      (w.setRow b (cur.toList.take (off + sLen * i.size) ++ news ++ cur.toList.drop (off + sLen * i.size + news.length)).toArray) := by
  have hst := run_storeCells_at P b (off + sLen * i.size) et news 0 cur w hg (by simpa using hfit) hs.one
  simp only [Nat.add_zero] at hst
  rcases hs.kind with ⟨e', hk⟩ | hk <;> simp [Builtin.append_, run_underlying ht, run_underlying hk, sizeOf, typeInfo, hi, hs.len, hroom, hs.cells, Addr.add_lit, hst]

theorem zero_info {t : TypeId} {z : List Value} (h : zeroO P t = some z) : ∃ i v, P.info? t = some i ∧ i.zero = some v ∧ v.cells.toList = z := by
  unfold zeroO at h
  obtain ⟨v, hv, rfl⟩ := Option.map_eq_some_iff.1 h
  obtain ⟨i, hi, hz⟩ := Option.bind_eq_some_iff.1 hv
  exact ⟨i, v, hi, hz, rfl⟩

theorem put_get {c : Array Value} {vs : List Value} {lo : Nat} (h : lo + vs.length ≤ c.size) :
    (c.toList.take lo ++ vs ++ c.toList.drop (lo + vs.length)).toArray.size = c.size ∧ (∀ i, (i < lo ∨ lo + vs.length ≤ i) → (c.toList.take lo ++ vs ++ c.toList.drop (lo + vs.length)).toArray[i]? = c[i]?) ∧
      ∀ i, i < vs.length → (c.toList.take lo ++ vs ++ c.toList.drop (lo + vs.length)).toArray[lo + i]? = vs[i]? := by
  have hlc : c.toList.length = c.size := by simp
  refine ⟨by simp only [List.size_toArray, List.length_append, List.length_take, List.length_drop]; omega, fun i hi => ?_, fun i hi => ?_⟩
  · simp only [List.getElem?_toArray]
    rcases hi with hi | hi
    · rw [List.append_assoc, List.getElem?_append_left (by rw [List.length_take]; omega), List.getElem?_take_of_lt hi]; simp
    · rw [List.getElem?_append_right (by rw [List.length_append, List.length_take]; omega), List.getElem?_drop, List.length_append, List.length_take]
      have : lo + vs.length + (i - (min lo c.toList.length + vs.length)) = i := by omega
      rw [this]; simp
  · simp only [List.getElem?_toArray]
    rw [List.append_assoc, List.getElem?_append_right (by rw [List.length_take]; omega), List.length_take, List.getElem?_append_left (by omega)]
    congr 1; omega

theorem op_append (hG : G.ok) (h : SR G st a w ok R lim) (hg : g ≠ 0) (hR : ∀ n, R n g = none) {c : Call} (ho : o.op = .call c) (hcal : c.callee = .builtin .append) (e : evalOp P T o g st = some r) : Goes P G o g r st a w lim := by
  simp only [evalOp, ho, hcal] at e
  split at e
  · rename_i s x t t2 trest d hargs htys hd
    have ha : c.args = #[s, x] := by rw [← Array.toArray_toList (xs := c.args), hargs]
    have key : ∀ el, P.underlying t = some (.slice el) → ((∃ e', P.underlying t2 = some (.slice e')) ∨ P.underlying t2 = some .string) → evalAppend P d g st.ent el (st.ev s) (st.ev x) = some r → Goes P G o g r st a w lim := by
      intro el hu hu2 e
      have hty : c.argTypes[0]? = some t ∧ c.argTypes[1]? = some t2 := by
        rw [← Array.toArray_toList (xs := c.argTypes), htys]; simp
      have hexec : ∀ (v : Value) (w' : World), (Builtin.append_ #[t, t2] o.type #[a.eval s, a.eval x]).run P w = .ok v w' → (execOp a.eval o).run P w = .ok (.value v) w' := by
        intro v w' hr
        have : Builtin.append_ c.argTypes o.type #[a.eval s, a.eval x] = Builtin.append_ #[t, t2] o.type #[a.eval s, a.eval x] := by
          unfold Builtin.append_
          simp only [hty.1, hty.2]
          rfl
        simp only [execOp, ho, resolve, hcal, ha, Sem.run_bind, Sem.run_pure, Result.andThen_ok, invoke, builtin]
        simp only [List.map_toArray, List.map_cons, List.map_nil, this, hr, Result.andThen_ok]
      unfold evalAppend at e
      split at e
      · rename_i sz by_ z n new hs hb hz hsrc
        split at e
        · cases e
        · rename_i hcond
          have c1 : new.length = n * sz := by by_cases h : new.length = n * sz; exact h; exact absurd (.inl h) hcond
          have c2 : new.all cellOk = true := by
            cases hh : new.all cellOk with
            | true => rfl
            | false => exact absurd (.inr (.inl hh)) hcond
          have c3 : z.length = sz := by by_cases h : z.length = sz; exact h; exact absurd (.inr (.inr (.inl h))) hcond
          have c4 : sz ≠ 0 := fun h => hcond (.inr (.inr (.inr (.inl h))))
          have c5 : by_ ≠ 0 := fun h => hcond (.inr (.inr (.inr (.inr (.inl h)))))
          have c6 : by_ ≤ 65536 := by by_cases h : by_ ≤ 65536; exact h; exact absurd (.inr (.inr (.inr (.inr (.inr (by omega)))))) hcond
          obtain ⟨i, zv, hi, hzv, hzl⟩ := zero_info hz
          have hisz : i.size = sz := by unfold szO at hs; rw [hi] at hs; simpa using hs
          have hib : i.bytes = by_ := by unfold bytesO at hb; rw [hi] at hb; simpa using hb
          obtain ⟨news, hnews, hlen, hcells⟩ := src_sound (P := P) h hsrc (h.ev x) c1
          have hnl := hnews.length
          have hone := cellsOk_sound hnews c2
          have hS : Src P i.size t2 (a.eval x) n news w := ⟨hu2, hlen, by rw [hisz]; exact hcells w rfl, by rw [hisz]; exact hcells w.drew rfl, by rw [hisz, hnl, c1], hone⟩
          -- a fresh row
          have fresh : ∀ (base : Option Addr) (len cc : Nat) (cs : List MV) (olds : List Value) (kill : List (Nat × Option Ent)) (rd : List Nat), a.eval s = .slice base len cc → VRs w ok R cs olds → cs.length = len * sz →
              (Builtin.firstCells sz len (.slice base len cc)).run P w.drew = .ok olds.toArray w.drew → cc < len + n → len + n ≤ 1073741824 → (∀ x ∈ kill, x.2 = none) →
              Goes P G o g { val := .row d g 0 (len + n) none sz, upd := kill ++ [(d, some ⟨g, cs ++ new, false⟩)], rd := rd } st a w lim := by
            intro base len cc cs olds kill rd hsv hvo hcl hfc hlt hsm hkill
            have hnx := nextslicecap_le hlt
            have hm : Builtin.nextslicecap (len + n) cc * i.bytes ≤ 281474976710656 := by
              have h2 : Builtin.nextslicecap (len + n) cc ≤ 2147484648 := by omega
              have h3 : i.bytes ≤ 65536 := by omega
              exact Nat.le_trans (Nat.mul_le_mul h2 h3) (by decide)
            have hr := run_append_grow_src w t t2 o.type el i zv hu hi hzv base len cc olds (by rw [hisz]; exact hfc) (a.eval x) n news hS hlt (by omega) hm
            rw [← hsv] at hr
            have hcap := grownCap_ge w (len + n) cc el
            have hd2 := h.drew
            have hol := hvo.length
            refine ⟨_, _, _, hexec _ _ hr, .inl rfl, ok, addR R d g (w.heap.size, 0), ?_⟩
            have := hd2.new (m := .row d g 0 (len + n) none sz) (v := .slice (some ⟨w.heap.size, 0, none⟩) (len + n) (grownCap w (len + n) cc el)) o.dst hg (hR d) (cells := cs ++ new) (vs := olds ++ news)
              ((olds ++ news).toArray ++ Builtin.zeroCells zv.cells (grownCap w (len + n) cc el - (len + n))) el
              (VRs.mono (Ext.refl _ _) (fun _ h => h) (fun _ _ _ h => h) _ _ (VRs.mono (w := w) (w' := w.drew) ⟨fun _ _ => rfl, fun _ _ h => h⟩ (fun _ h => h) (fun _ _ _ h => h) _ _ (hvo.append hnews)))
              (fun j hj => by rw [Array.getElem?_append_left (by simpa using hj)]; simp) kill hkill rd
              ⟨w.heap.size, 0, grownCap w (len + n) cc el, addR_self, rfl, hcap, (fun k hk => by cases hk), fun _ => ⟨_, el, (0, 0), heap_alloc_self _ _, by
                have hzs : zv.cells.size = sz := by rw [← c3, ← hzl]; simp
                simp only [Array.size_append, List.size_toArray, List.length_append, size_zeroCells, hzs, hol, hcl, hnl, c1]
                have e1 : len * sz + n * sz + (grownCap w (len + n) cc el - (len + n)) * sz = grownCap w (len + n) cc el * sz := by
                  rw [← Nat.add_mul, ← Nat.add_mul]; congr 1; omega
                omega⟩⟩
            exact this
          have hsx := h.ev s
          split at e
          · rename_i len c0 cs hm
            rw [hm] at hsx
            obtain ⟨base, cc, hsv, hl, hk, hcs⟩ := hsx
            have hcc := hk c0 rfl
            subst hcc
            split at e
            · rename_i hh
              cases e
              obtain ⟨_, _, olds, hx1, hvo, hfc⟩ := row_sound (P := P) (sz := sz) (n := len) (cs := cs) (m := .fs len (some cc) cs) h rfl (x := .slice base len cc) ⟨base, cc, rfl, hl, hk, hcs⟩ hh.2.1
              cases hx1
              exact fresh base len cc cs olds [] (nameOf (st.ev x)) hsv hvo hh.2.1 (hfc w.drew rfl) hh.1 hh.2.2 (by simp)
            · split at e
              · rename_i h0
                have hl0 : len = 0 := by omega
                have hn0 : n = 0 := by omega
                subst hl0 hn0
                cases e
                have hnil : news = [] := by apply List.eq_nil_of_length_eq_zero; rw [hnl, c1]; simp
                have hr : (Builtin.append_ #[t, t2] o.type #[a.eval s, a.eval x]).run P w = .ok (.slice base 0 cc) w := by
                  rw [hsv]
                  have hc0 := hS.cells
                  rw [hnil] at hc0
                  rcases hu2 with ⟨e', hk⟩ | hk
                  all_goals
                    cases base with
                    | none => simp [Builtin.append_, run_underlying hu, run_underlying hk, sizeOf, typeInfo, hi, hS.len, hc0]
                    | some p => simp [Builtin.append_, run_underlying hu, run_underlying hk, sizeOf, typeInfo, hi, hS.len, hc0, storeCells]
                refine goes_val h (hexec _ _ hr) ⟨base, cc, rfl, Nat.zero_le _, hk, .inl ⟨rfl, rfl, fun hb => ?_⟩⟩
                subst hb
                rcases hcs with ⟨_, _, hcs⟩ | ⟨b, o', vs, hb, _⟩
                · exact hcs rfl
                · cases hb
              · cases e
          · rename_i nm g' off len cap sz' hm
            rw [hm] at hsx
            obtain ⟨B, d0, cc, hRn, hsv, hl, hk, hcell⟩ := hsx
            split at e
            · rename_i en he
              split at e
              · rename_i hh
                obtain ⟨hgen, hg0, hfr, hsz, hend, hsm, _⟩ := hh
                subst hsz
                cases e
                obtain ⟨B', d', hE⟩ := h.ents nm en he
                have := Option.some.inj ((hgen ▸ hRn).symm.trans hE.at_); cases this
                obtain ⟨c0, el0, vs, hB, hvs, hcv, hcsz⟩ := hE.body
                have hvl := hvs.length
                by_cases hroom : len + n ≤ cc
                · -- in place
                  obtain ⟨c1', el1, fr1, hB1, hsize⟩ := hcell hg0
                  rw [hB] at hB1; cases hB1
                  have e1 : (len + n) * sz' ≤ cc * sz' := Nat.mul_le_mul_right _ hroom
                  rw [Nat.add_mul] at e1
                  have hfit : d0 + off + len * sz' + news.length ≤ c0.size := by rw [hnl, c1]; omega
                  have hr := append_room w t t2 o.type el i hu hi B (d0 + off) len cc (a.eval x) n news hS c0 el0 hB hroom (by rw [hisz]; exact hfit)
                  rw [← hsv, hisz] at hr
                  obtain ⟨p1, p2, p3⟩ := put_get hfit
                  generalize (c0.toList.take (d0 + off + len * sz') ++ news ++ c0.toList.drop (d0 + off + len * sz' + news.length)).toArray = c' at hr p1 p2 p3
                  have hx := Ext.setRow (ok := ok) hB p1 (hE.own hfr)
                  have hRo : ∀ n' g'' p, R n' g'' = some p → addR R d g (B, d0 + off) n' g'' = some p := addR_old (hR d)
                  have hE' : ER G (w.setRow B c') ok (addR R d g (B, d0 + off)) d ⟨g, en.cells.drop off ++ new, false⟩ B (d0 + off) := by
                    refine ⟨addR_self, ⟨c', el0, vs.drop off ++ news, setRow_heap _ _ _ _ _ _ hB, VRs.mono hx (fun _ h => h) hRo _ _ ((hvs.drop off).append hnews), ?_, ?_⟩, fun hf => Bool.noConfusion hf, fun _ => hE.own hfr, ?_, fun h0 => absurd h0 hg⟩
                    · intro j hj
                      simp only [List.length_append, List.length_drop] at hj
                      by_cases hj1 : j < vs.length - off
                      · rw [List.getElem?_append_left (by simpa using hj1), List.getElem?_drop, p2 _ (by omega), Nat.add_assoc]
                        exact hcv _ (by omega)
                      · rw [List.getElem?_append_right (by simp; omega), List.length_drop]
                        rw [show d0 + off + j = d0 + off + len * sz' + (j - (vs.length - off)) from by omega]
                        exact p3 _ (by omega)
                    · right; simp only [List.length_append, List.length_drop]; omega
                    · rcases hE.base with hb | hb
                      · exact .inl hb
                      · exact absurd (hgen ▸ hb) hg0
                  refine ⟨_, _, _, hexec _ _ hr, .inl rfl, ok, addR R d g (B, d0 + off), ?_⟩
                  refine h.write hG he hE hfr hB p1 (lo := d0 + off + len * sz') (hi := d0 + off + len * sz' + news.length) p2 (fun h0 => absurd (hgen ▸ h0) hg0) hRo ?_ hE' rfl ?_ ?_ (defers_put h.defers)
                  · intro n' g'' hne
                    unfold addR at hne
                    split at hne
                    · rename_i hh; exact .inr hh.2
                    · exact .inl (h.fresh _ _ hne)
                  · intro m y hy
                    rcases setUpd_some _ _ _ _ hy with h3 | ⟨h3, h4⟩
                    · simp at h3; exact .inl h3
                    · simp at h3; exact .inr ⟨h3.1, h3.2, h4⟩
                  · refine slots_put (VRs.mono hx (fun _ h => h) hRo _ _ h.slots) o.dst ⟨B, d0 + off, cc, addR_self, by simp, hroom, ?_, fun _ => hx.has _ _ ?_⟩
                    · intro k hk'
                      cases cap with
                      | none => cases hk'
                      | some q => have := hk q rfl; subst this; simp only [capIn, Option.bind_some, if_pos hroom] at hk'; cases hk'; rfl
                    · simpa using hcell hg0
                · have hcapn : capIn cap (len + n) = none := by
                    cases cap with
                    | none => rfl
                    | some q => have := hk q rfl; subst this; simp only [capIn, Option.bind_some, if_neg hroom]
                  rw [hcapn]
                  have hrow : rowCells st.ent (.row nm g' off len cap sz') = some (len, en.cells.drop off) := by
                    simp only [rowCells, he]
                    rw [if_pos ⟨hgen, by omega⟩, List.take_of_length_le (by simp; omega)]
                  obtain ⟨_, _, olds, hx1, hvo, hfc⟩ := row_sound (P := P) (sz := sz') h hrow (x := .slice (some ⟨B, d0 + off, none⟩) len cc) ⟨B, d0, cc, hRn, rfl, hl, hk, hcell⟩ (by simp; omega)
                  cases hx1
                  exact fresh _ len cc (en.cells.drop off) olds [(nm, none)] (nm :: nameOf (st.ev x)) hsv hvo (by simp; omega) (hfc w.drew rfl) (by omega) hsm (by simp)
              · cases e
            · cases e
          · cases e
      · cases e
    split at e
    · rename_i el e2 hu hu2
      exact key el (sliceO_sound hu) (.inl ⟨e2, hu2⟩) e
    · rename_i el hu hu2
      exact key el (sliceO_sound hu) (.inr hu2) e
    · cases e
  · cases e
end Go.Proofs.YtkeelkeoijemiaaGreat.Ev

namespace Go.Proofs.YtkeelkeoijemiaaGreat.Ev
open Go Go.RowKit

variable {P : Program} {T : Tab} {G : Gh} {st : St} {a : Act} {w : World} {ok : Nat → Prop} {R : Nat → Nat → Option (Nat × Nat)} {lim : Nat → Prop} {o : Oper} {g : Nat} {r : Res}

def enters (P : Program) (f : FuncId) : Prop := ∃ fn, P.funcs[f]? = some fn ∧ (fn.name == "runtime.NumGoroutine") = false ∧ fn.body.isNone = false

/-- An argument that is written to. -/
def IOR (w : World) (ok : Nat → Prop) (i : Nat) (m : MV) (x : Value) (y : IOw) : Prop :=
  y.p = i ∧ ∃ len c cs el cells vs, m = .fs len none cs ∧ x = .slice (some ⟨y.B, y.d, none⟩) len c ∧ len ≤ c ∧ y.n = cs.length ∧ w.heap[y.B]? = some (.cells cells el (0, 0)) ∧ VRs w ok noR cs vs ∧
    (∀ j, j < vs.length → cells[y.d + j]? = vs[j]?) ∧ (vs = [] ∨ y.d + vs.length ≤ cells.size)

def ArgsR (w : World) (ok : Nat → Prop) (io : List Nat) : Nat → List MV → List Value → List IOw → Prop
  | _, [], vs, ios => vs = [] ∧ ios = []
  | i, m :: ms, vs, ios => ∃ v vt, vs = v :: vt ∧ if io.contains i then ∃ y ys, ios = y :: ys ∧ IOR w ok i m v y ∧ ArgsR w ok io (i + 1) ms vt ys else VR w ok noR m v ∧ ArgsR w ok io (i + 1) ms vt ios

def okA (w : World) (ok : Nat → Prop) (w' : World) : Nat → Prop := fun b => b < w'.heap.size ∧ (ok b ∨ w.heap.size ≤ b)

def OutR (w' : World) (ok : Nat → Prop) (y : IOw) (out : List MV) : Prop :=
  out.length = y.n ∧ ∃ c el vs, w'.heap[y.B]? = some (.cells c el (0, 0)) ∧ VRs w' ok noR out vs ∧ (∀ j, j < vs.length → c[y.d + j]? = vs[j]?)

structure CallPost (w : World) (ok : Nat → Prop) (ios : List IOw) (res : MV) (outs : List (List MV)) (x : Value) (w' : World) : Prop where
  os : w'.os = w.os
  tape : w'.tape = w.tape
  output : w'.output = w.output
  size : w.heap.size ≤ w'.heap.size
  low : ∀ k, k < w.heap.size → (∀ y ∈ ios, y.B ≠ k) → w'.heap[k]? = w.heap[k]?
  ioK : ∀ y ∈ ios, ∃ c c0 el fr, w.heap[y.B]? = some (.cells c0 el fr) ∧ w'.heap[y.B]? = some (.cells c el fr) ∧ c.size = c0.size ∧ ∀ i, (i < y.d ∨ y.d + y.n ≤ i) → c[i]? = c0[i]?
  res : VR w' (okA w ok w') noR res x
  outs : All2 (OutR w' (okA w ok w')) ios outs

def CallOK (P : Program) (io : List Nat) (f : FuncId) (args : List MV) (res : MV) (outs : List (List MV)) : Prop :=
  enters P f ∧ ∀ (w : World) (ok : Nat → Prop) (vs : List Value) (ios : List IOw), Gh.ok ⟨w, ok, ios⟩ → (∀ b, ok b → b < w.heap.size) → ArgsR w ok io 0 args vs ios →
    Calls P f ⟨vs⟩ w fun e w' => ∃ x, e = .returned x ∧ CallPost w ok ios res outs x w'

def TabOK (P : Program) (T : Tab) : Prop := ∀ f args res outs, T.call f args = some (res, outs) → CallOK P (T.io f) f args res outs

mutual
theorem bare_sound1 : ∀ (k : Nat) (m m' : MV) (ns : List Nat) (x : Value), freeze (fun _ => none) k m = some (m', ns) → VR w ok R m x → VR w ok noR m x
  | 0, _, _, _, _, e, _ => by simp [freeze] at e
  | k + 1, .sc v, _, _, x, _, hv => hv
  | k + 1, .fs n c cs, _, _, x, _, hv => hv
  | k + 1, .cp cs, _, _, x, _, hv => hv
  | k + 1, .agg cs, m', ns, x, e, ⟨vs, hx, hv⟩ => by
    simp only [freeze, Option.map_eq_some_iff] at e
    obtain ⟨⟨y, z⟩, h1, _⟩ := e
    exact ⟨vs, hx, bare_sounds k cs y z vs h1 hv⟩
  | k + 1, .tup cs, m', ns, x, e, ⟨vs, hx, hv⟩ => by
    simp only [freeze, Option.map_eq_some_iff] at e
    obtain ⟨⟨y, z⟩, h1, _⟩ := e
    exact ⟨vs, hx, bare_sounds k cs y z vs h1 hv⟩
  | k + 1, .fn f cs, m', ns, x, e, ⟨vs, hx, hv⟩ => by
    simp only [freeze, Option.map_eq_some_iff] at e
    obtain ⟨⟨y, z⟩, h1, _⟩ := e
    exact ⟨vs, hx, bare_sounds k cs y z vs h1 hv⟩
  | k + 1, .any, _, _, _, e, _ => by simp [freeze] at e
  | k + 1, .ptr _ _ _, _, _, _, e, _ => by simp [freeze] at e
  | k + 1, .row _ _ _ _ _ _, _, _, _, e, _ => by simp [freeze] at e
theorem bare_sounds : ∀ (k : Nat) (ms ms' : List MV) (ns : List Nat) (vs : List Value), freezes (fun _ => none) k ms = some (ms', ns) → VRs w ok R ms vs → VRs w ok noR ms vs
  | 0, _, _, _, _, e, _ => by simp [freezes] at e
  | k + 1, [], _, _, vs, _, hv => hv
  | k + 1, m :: ms, ms', ns, vs, e, ⟨v, vt, hx, hv, hvs⟩ => by
    simp only [freezes] at e
    split at e
    · rename_i x y h1 h2
      exact ⟨v, vt, hx, bare_sound1 k m x.1 x.2 v h1 hv, bare_sounds k ms y.1 y.2 vt h2 hvs⟩
    · cases e
end
theorem bare_sound {ms : List MV} {vs : List Value} (h : bare ms = true) (hv : VRs w ok R ms vs) : VRs w ok noR ms vs := by
  unfold bare at h
  split at h
  · rename_i y hy; exact bare_sounds _ _ _ _ _ hy hv
  · cases h

def Link (st : St) (R : Nat → Nat → Option (Nat × Nat)) (t : Nat × Nat × Nat) (y : IOw) : Prop :=
  ∃ e d, st.ent t.1 = some e ∧ e.frozen = false ∧ R t.1 e.gen = some (y.B, d) ∧ y.d = d + t.2.1 ∧ y.n = t.2.2 ∧ t.2.1 + t.2.2 ≤ e.cells.length

theorem prep_sound (h : SR G st a w ok R lim) {io : List Nat} {ok' : Nat → Prop} (up : ∀ b, ok b → ok' b) : ∀ (ms : List MV) (vs : List Value) (i : Nat) (as : List MV) (fz : List Nat) (ioL : List (Nat × Nat × Nat)),
    prepArgs st.ent io i ms = some (as, fz, ioL) → VRs w ok R ms vs → (∀ nm ∈ fz, ∀ e b d, st.ent nm = some e → R nm e.gen = some (b, d) → ok' b) →
    ∃ ios, ArgsR w ok' io i as vs ios ∧ All2 (Link st R) ioL ios
  | [], vs, i, as, fz, ioL, e, hv, _ => by
    simp [prepArgs] at e; obtain ⟨rfl, rfl, rfl⟩ := e
    cases hv
    exact ⟨[], ⟨rfl, rfl⟩, .nil⟩
  | m :: ms, vs, i, as, fz, ioL, e, ⟨v, vt, hx, hm, hms⟩, hb => by
    subst hx
    simp only [prepArgs] at e
    split at e
    · cases e
    · rename_i as1 fz1 io1 h1
      split at e
      · rename_i hio
        split at e
        · rename_i nm g' off len cap sz
          split at e
          · rename_i en he
            split at e
            · rename_i hh
              cases e
              obtain ⟨hgen, hfr, hle, hbare⟩ := hh
              obtain ⟨ios, h2, h3⟩ := prep_sound h up ms vt (i + 1) as1 fz io1 h1 hms hb
              obtain ⟨B, d, c, hR, rfl, hlc, _, _⟩ := hm
              obtain ⟨B', d', hE⟩ := h.ents nm en he
              have := Option.some.inj ((hgen ▸ hR).symm.trans hE.at_); cases this
              obtain ⟨c0, el, us, hB, hus, hcv, hsz⟩ := hE.body
              have hul := hus.length
              have hw := bare_sound hbare ((hus.drop off).take (len * sz))
              have hw' := VRs.mono (ok' := ok') (Ext.refl _ _) up (fun _ _ _ h => h) _ _ hw
              have hlw : ((us.drop off).take (len * sz)).length = len * sz := by simp only [List.length_take, List.length_drop]; omega
              refine ⟨⟨i, B, d + off, len * sz⟩ :: ios, ⟨_, vt, rfl, ?_⟩, .cons ⟨en, d, he, hfr, hE.at_, rfl, rfl, hle⟩ h3⟩
              rw [if_pos hio]
              refine ⟨_, ios, rfl, ⟨rfl, len, c, _, el, c0, _, rfl, rfl, hlc, ?_, hB, hw', ?_, ?_⟩, h2⟩
              · simp only [List.length_take, List.length_drop]; omega
              · intro j hj
                rw [hlw] at hj
                rw [List.getElem?_take_of_lt hj, List.getElem?_drop]
                show c0[d + off + j]? = _
                rw [Nat.add_assoc]
                exact hcv _ (by omega)
              · rw [hlw]
                rcases hsz with hsz | hsz
                · left; subst hsz; simp
                · right; show d + off + len * sz ≤ c0.size; omega
            · cases e
          · cases e
        · cases e
      · rename_i hio
        split at e
        · rename_i m' f hf
          cases e
          obtain ⟨ios, h2, h3⟩ := prep_sound h up ms vt (i + 1) as1 fz1 ioL h1 hms fun nm hn => hb nm (by simp [hn])
          refine ⟨ios, ⟨_, vt, rfl, ?_⟩, h3⟩
          rw [if_neg hio]
          exact ⟨freeze_sound h up _ m m' f v hf hm fun nm hn => hb nm (by simp [hn]), h2⟩
        · cases e

theorem prep_gen (en : Nat → Option Ent) {io : List Nat} : ∀ (ms : List MV) (i : Nat) (as : List MV) (fz : List Nat) (ioL : List (Nat × Nat × Nat)),
    prepArgs en io i ms = some (as, fz, ioL) → ∀ nm ∈ fz, ∀ e, en nm = some e → e.gen ≠ 0
  | [], i, as, fz, ioL, e => by simp [prepArgs] at e; obtain ⟨rfl, rfl, rfl⟩ := e; simp
  | m :: ms, i, as, fz, ioL, e => by
    simp only [prepArgs] at e
    split at e
    · cases e
    · rename_i as1 fz1 io1 h1
      split at e
      · split at e
        · split at e
          · split at e
            · cases e; exact prep_gen en ms (i + 1) as1 fz io1 h1
            · cases e
          · cases e
        · cases e
      · split at e
        · rename_i m' f hf
          cases e
          intro nm hn
          rcases List.mem_append.1 hn with hn | hn
          · exact freeze_gen en _ _ _ _ hf nm hn
          · exact prep_gen en ms (i + 1) as1 fz1 _ h1 nm hn
        · cases e

theorem back_mem {w' : World} {ok1 : Nat → Prop} : ∀ (ioL : List (Nat × Nat × Nat)) (ios : List IOw) (outs : List (List MV)) (u : List (Nat × Option Ent)), backRows st.ent ioL outs = some u → All2 (Link st R) ioL ios → All2 (OutR w' ok1) ios outs →
    u.map (·.1) = ioL.map (·.1) ∧ ∀ p ∈ u, ∃ nm off n y out e, p = (nm, some { e with cells := putCells e.cells off out }) ∧ (nm, off, n) ∈ ioL ∧ y ∈ ios ∧ Link st R (nm, off, n) y ∧ OutR w' ok1 y out ∧ st.ent nm = some e ∧ out.length = n
  | [], _, _, u, e, .nil, .nil => by simp [backRows] at e; subst e; simp
  | (nm, off, n) :: ioL, y :: ios, out :: outs, u, e, .cons h1 h2, .cons k1 k2 => by
    simp only [backRows] at e
    split at e
    · rename_i en r he hr
      split at e
      · rename_i hl
        cases e
        obtain ⟨e1, e2⟩ := back_mem ioL ios outs r hr h2 k2
        refine ⟨by simp [e1], fun p hp => ?_⟩
        rcases List.mem_cons.1 hp with rfl | hp
        · exact ⟨nm, off, n, y, out, en, rfl, by simp, by simp, h1, k1, he, hl⟩
        · obtain ⟨nm', off', n', y', out', e', q1, q2, q3, q4⟩ := e2 p hp
          exact ⟨nm', off', n', y', out', e', q1, by simp [q2], by simp [q3], q4⟩
      · cases e
    · cases e

theorem All2.mem_right {α β : Type} {p : α → β → Prop} : ∀ {l : List α} {m : List β}, All2 p l m → ∀ y ∈ m, ∃ x ∈ l, p x y
  | _, _, .nil, y, h => by cases h
  | _, _, .cons h hs, y, hy => by
    rcases List.mem_cons.1 hy with rfl | hy
    · exact ⟨_, by simp, h⟩
    · obtain ⟨x, hx, hp⟩ := hs.mem_right y hy; exact ⟨x, by simp [hx], hp⟩

theorem links_one (h : SR G st a w ok R lim) : ∀ {ioL : List (Nat × Nat × Nat)} {ios : List IOw}, (ioL.map (·.1)).Nodup → All2 (Link st R) ioL ios → ∀ x ∈ ios, ∀ y ∈ ios, x.B = y.B → x = y
  | _, _, _, .nil, x, hx, _, _, _ => by cases hx
  | t :: l, z :: m, hn, .cons hl hs, x, hx, y, hy, he => by
    simp only [List.map_cons, List.nodup_cons] at hn
    have ne : ∀ q ∈ m, z.B ≠ q.B := by
      intro q hq
      obtain ⟨t', ht', hl'⟩ := hs.mem_right q hq
      obtain ⟨e1, d1, a1, a2, a3, _⟩ := hl
      obtain ⟨e2, d2, b1, _, b3, _⟩ := hl'
      exact h.apart t.1 t'.1 e1 e2 _ _ (fun e => hn.1 (e ▸ List.mem_map.2 ⟨t', ht', rfl⟩)) a1 b1 a3 b3 a2
    rcases List.mem_cons.1 hx with rfl | hx1 <;> rcases List.mem_cons.1 hy with rfl | hy1
    · rfl
    · exact absurd he (ne y hy1)
    · exact absurd he.symm (ne x hx1)
    · exact links_one h hn.2 hs x hx1 y hy1 he

theorem setFrz_not {m : Nat} : ∀ (f : List Nat) (en : List (Option Ent)), m ∉ f → (setFrz en f).getD m none = en.getD m none
  | [], en, _ => rfl
  | n :: r, en, hn => by
    simp only [List.mem_cons, not_or] at hn
    simp only [setFrz]
    rw [setFrz_not r _ hn.2]
    unfold frzAt
    split
    · simp only [List.getD_eq_getElem?_getD, List.getElem?_set]
      rw [if_neg (fun e => hn.1 e.symm)]
    · rfl

/-- Behind a call. -/
theorem SR.afterCall (hGG : G.ok) (h : SR G st a w ok R lim) {ioL : List (Nat × Nat × Nat)} {ios : List IOw} {res : MV} {outs : List (List MV)} {x : Value} {w' : World} (hlink : All2 (Link st R) ioL ios)
    (hG : Gh.ok ⟨w, ok, ios⟩) (hp : CallPost w ok ios res outs x w') {u : List (Nat × Option Ent)} (hu : backRows st.ent ioL outs = some u) (dst : Option Tmp) (rd : List Nat) :
    SR G (st.put dst { val := res, upd := u, rd := rd }) (a.put dst x) w' (okA w ok w') R lim := by
  have noRB : ∀ b, ok b → ∀ y ∈ ios, y.B ≠ b := fun b hb y hy e => hG.no y hy (e ▸ hb)
  have hx : Ext ok w w' := by
    refine ⟨fun b hb => hp.low b (h.okLt b hb) (noRB b hb), fun b n ⟨c, el, fr, h1, h2⟩ => ?_⟩
    by_cases hb : ∃ y ∈ ios, y.B = b
    · obtain ⟨y, hy, rfl⟩ := hb
      obtain ⟨c1, c0, el1, fr1, k1, k2, k3, _⟩ := hp.ioK y hy
      rw [h1] at k1; cases k1
      exact ⟨c1, el, fr, k2, by omega⟩
    · exact ⟨c, el, fr, by rw [hp.low b (lt_of_heap h1) fun y hy e => hb ⟨y, hy, e⟩]; exact h1, h2⟩
  have up : ∀ b, ok b → okA w ok w' b := fun b hb => ⟨Nat.lt_of_lt_of_le (h.okLt b hb) hp.size, .inl hb⟩
  have notUp : ∀ b, b < w.heap.size → ¬ ok b → ¬ okA w ok w' b := fun b hb hn ⟨_, h2⟩ => h2.elim hn fun h3 => by omega
  obtain ⟨hun, hum⟩ := back_mem ioL ios outs u hu hlink hp.outs
  have cases_ : ∀ n e', (st.put dst { val := res, upd := u, rd := rd }).ent n = some e' →
      (∃ off k y out e, e' = { e with cells := putCells e.cells off out } ∧ (n, off, k) ∈ ioL ∧ y ∈ ios ∧ Link st R (n, off, k) y ∧ OutR w' (okA w ok w') y out ∧ st.ent n = some e ∧ out.length = k) ∨
      (n ∉ ioL.map (·.1) ∧ st.ent n = some e') := by
    intro n e' he'
    rcases setUpd_some u _ n e' he' with h1 | ⟨h1, h2⟩
    · obtain ⟨nm, off, k, y, out, e, q1, q2, q3, q4, q5, q6, q7⟩ := hum _ h1
      cases q1
      exact .inl ⟨off, k, y, out, e, rfl, q2, q3, q4, q5, q6, q7⟩
    · rw [hun] at h1
      exact .inr ⟨h1, h2⟩
  -- the block of an entry: named by the elder state
  have ofOld : ∀ n e', (st.put dst { val := res, upd := u, rd := rd }).ent n = some e' → ∃ e, st.ent n = some e ∧ e.gen = e'.gen ∧ e.frozen = e'.frozen := by
    intro n e' he'
    rcases cases_ n e' he' with ⟨off, k, y, out, e, rfl, _, _, _, _, he, _⟩ | ⟨_, he⟩
    · exact ⟨e, he, rfl, rfl⟩
    · exact ⟨e', he, rfl, rfl⟩
  refine { os := hp.os.trans h.os, tape := hp.tape.trans h.tape, output := hp.output.trans h.output, size := Nat.le_trans h.size hp.size, low := ?_, ioK := ?_, okLt := fun b hb => hb.1, okLow := ?_, okUp := fun b hb => up b (h.okUp b hb), ents := ?_, apart := ?_, slots := ?_, defers := defers_put h.defers, fresh := h.fresh }
  · intro k hk hk2
    rw [hp.low k (Nat.lt_of_lt_of_le hk h.size) ?_]
    · exact h.low k hk hk2
    · intro y hy hyk
      obtain ⟨t, ht, e, d, he, hf, hR, hd, hn, hl⟩ := hlink.mem_right y hy
      obtain ⟨B, d', hE⟩ := h.ents _ e he
      have := Option.some.inj (hR.symm.trans hE.at_); cases this
      rcases hE.base with hb | hb
      · omega
      · obtain ⟨_, x', hx1, _, hxB, _, _⟩ := hE.io hb
        exact hk2 x' hx1 (hxB.trans hyk)
  · intro z hz
    obtain ⟨c1, c0, el, fr, h1, h2, h3, h4⟩ := h.ioK z hz
    by_cases hb : ∃ y ∈ ios, y.B = z.B
    · obtain ⟨y, hy, hyB⟩ := hb
      obtain ⟨c2, c1', el2, fr2, k1, k2, k3, k4⟩ := hp.ioK y hy
      rw [hyB, h2] at k1; cases k1
      obtain ⟨t, ht, e, d, he, hf, hR, hd, hn, hl⟩ := hlink.mem_right y hy
      obtain ⟨B, d', hE⟩ := h.ents _ e he
      have := Option.some.inj (hR.symm.trans hE.at_); cases this
      refine ⟨c2, c0, el, fr, h1, by rw [← hyB]; exact k2, k3.trans h3, fun i hi => ?_⟩
      have hg0 : e.gen = 0 := by
        rcases hE.base with hb | hb
        · have := lt_of_heap h1; omega
        · exact hb
      obtain ⟨_, x', hx1, _, hxB, hxd, hxn⟩ := hE.io hg0
      have hzx : z.d = x'.d ∧ z.n = x'.n := by
        have := hGG.one z hz x' hx1 (by rw [hxB, hyB])
        rw [this]; exact ⟨rfl, rfl⟩
      rw [k4 i (by omega)]; exact h4 i (by omega)
    · exact ⟨c1, c0, el, fr, h1, by rw [hp.low z.B (lt_of_heap h2) fun y hy e => hb ⟨y, hy, e⟩]; exact h2, h3, h4⟩
  · rintro b ⟨_, hb⟩
    rcases hb with hb | hb
    · exact h.okLow b hb
    · exact .inr (Nat.le_trans h.size hb)
  · intro n e' he'
    rcases cases_ n e' he' with ⟨off, k, y, out, e, rfl, _, hy, ⟨e2, d, q1, q2, q3, q4, q5, q6⟩, ⟨o1, c2, el2, vs2, o2, o3, o4⟩, he, hol⟩ | ⟨hn, he⟩
    · rw [he] at q1; cases q1
      obtain ⟨B, d', hE⟩ := h.ents n e he
      have := Option.some.inj (q3.symm.trans hE.at_); cases this
      obtain ⟨c, el, vs, b1, b2, b3, b4⟩ := hE.body
      obtain ⟨c2', c1', el', fr', k1, k2, k3, k4⟩ := hp.ioK y hy
      rw [b1] at k1; cases k1
      rw [k2] at o2; cases o2
      have hvl := b2.length
      have ho3 := VRs.mono (R' := R) (Ext.refl _ _) (fun _ h => h) (fun _ _ _ h => by cases h) _ _ o3
      have hol2 := o3.length
      have hnew := (VRs.mono hx up (fun _ _ _ h => h) _ _ b2).put ho3 off
      simp only at q4 q5 q6
      refine ⟨y.B, d, hE.at_, ⟨_, _, _, k2, hnew, ?_, ?_⟩, fun hf => ?_, fun hf => notUp _ hE.lt (hE.own hf), hE.base, fun h0 => ?_⟩
      · intro j hj
        by_cases j1 : j < off
        · rw [k4 _ (by omega), List.append_assoc, List.getElem?_append_left (by rw [List.length_take]; omega), List.getElem?_take_of_lt j1]
          exact b3 j (by omega)
        · by_cases j2 : j < off + k
          · rw [show d + j = y.d + (j - off) from by omega, o4 _ (by omega), List.append_assoc, List.getElem?_append_right (by rw [List.length_take]; omega), List.length_take, List.getElem?_append_left (by omega)]
            congr 1; omega
          · simp only [List.length_append, List.length_take, List.length_drop] at hj
            rw [k4 _ (by omega), List.getElem?_append_right (by rw [List.length_append, List.length_take]; omega), List.getElem?_drop, List.length_append, List.length_take]
            rw [b3 j (by omega)]
            congr 1; omega
      · rcases b4 with b4 | b4
        · left; subst b4; simp at hvl
          have : vs2 = [] := List.eq_nil_of_length_eq_zero (by omega)
          simp [this]
        · right; simp only [List.length_append, List.length_take, List.length_drop]; omega
      · simp only at hf; rw [q2] at hf; cases hf
      · obtain ⟨z1, z2, z3, z4, z5, z6, z7⟩ := hE.io h0
        refine ⟨z1, z2, z3, z4, z5, z6, ?_⟩
        rw [z7]; simp only [putCells, List.length_append, List.length_take, List.length_drop]; omega
    · obtain ⟨B, d, hE⟩ := h.ents n e' he
      refine ⟨B, d, hE.keep hx up (fun _ _ _ h => h) ?_ fun hf => notUp _ hE.lt (hE.own hf)⟩
      refine hp.low B hE.lt fun y hy hyB => ?_
      obtain ⟨t, ht, e, d', q1, q2, q3, _⟩ := hlink.mem_right y hy
      exact h.apart t.1 n e e' _ _ (fun e => hn (e ▸ List.mem_map.2 ⟨t, ht, rfl⟩)) q1 he q3 hE.at_ q2 hyB
  · intro n n' e e' p p' hne he he' hp1 hp2 hf
    obtain ⟨e0, k1, k2, k3⟩ := ofOld n e he
    obtain ⟨e0', k1', k2', k3'⟩ := ofOld n' e' he'
    exact h.apart n n' e0 e0' p p' hne k1 k1' (by rw [k2]; exact hp1) (by rw [k2']; exact hp2) (by rw [k3]; exact hf)
  · exact slots_put (VRs.mono hx up (fun _ _ _ h => h) _ _ h.slots) dst (VR.mono (R := noR) (Ext.refl _ _) (fun _ h => h) (fun _ _ _ h => by cases h) _ _ hp.res)

theorem run_callFunc {f : FuncId} (he : enters P f) (args : Array Value) (w : World) : (callFunc f args).run P w = .ok (.enter f args) w := by
  obtain ⟨fn, h1, h2, h3⟩ := he
  simp only [callFunc, Sem.run_bind, run_program, Result.andThen_ok, h1, h2, h3, Bool.false_eq_true, if_false, Sem.run_pure]

theorem op_call {K : Act → World → Prop} {Q : Exit → Act → World → Prop} (hT : TabOK P T) (hGG : G.ok) (h : SR G st a w ok R lim) {c : Call} {f : Operand} (ho : o.op = .call c) (hcal : c.callee = .value f) (e : evalOp P T o g st = some r)
    (hK : ∀ v w' ok' R', SR G (st.put o.dst r) (a.put o.dst v) w' ok' R' (fun x => lim x ∨ x = g) → K (a.put o.dst v) w') : o.wp P a w K Q := by
  simp only [evalOp, ho, hcal] at e
  split at e
  · rename_i f0 caps hf
    have hfv := h.ev f
    rw [hf] at hfv
    obtain ⟨cvs, hfa, hcaps⟩ := hfv
    unfold evalCall at e
    split at e
    · cases e
    · rename_i as fz ioL hprep
      split at e
      · rename_i hh
        obtain ⟨hnd, hnf⟩ := hh
        split at e
        · cases e
        · rename_i res outs hres
          split at e
          · cases e
          · rename_i u hu
            cases e
            have hall := (ev_list h c.args.toList).append hcaps
            have hz := prep_gen st.ent _ 0 as fz ioL hprep
            obtain ⟨ios, hargs, hlinks⟩ := prep_sound (ok' := okF st R ok fz) h (fun _ hb => .inl hb) _ _ 0 as fz ioL hprep hall fun nm hn e b d he hR => .inr ⟨nm, hn, e, d, he, hR⟩
            have h1 := h.freeze fz hz
            have hlinks1 : All2 (Link { st with en := setFrz st.en fz } R) ioL ios := by
              have : ∀ {l : List (Nat × Nat × Nat)} {m : List IOw}, (∀ t ∈ l, t.1 ∉ fz) → All2 (Link st R) l m → All2 (Link { st with en := setFrz st.en fz } R) l m := by
                intro l m hl hm
                induction hm with
                | nil => exact .nil
                | cons hp _ ih =>
                  obtain ⟨e, d, a1, a2⟩ := hp
                  refine .cons ⟨e, d, ?_, a2⟩ (ih fun t ht => hl t (by simp [ht]))
                  show (setFrz st.en fz).getD _ none = _
                  rw [setFrz_not fz st.en (hl _ (by simp))]; exact a1
              refine this (fun t ht => ?_) hlinks
              have := List.all_eq_true.1 hnf t.1 (List.mem_map.2 ⟨t, ht, rfl⟩)
              simpa using this
            have hG1 : Gh.ok ⟨w, okF st R ok fz, ios⟩ := by
              refine ⟨fun y hy => ?_, links_one h1 hnd hlinks1, fun y hy hb => ?_⟩
              · obtain ⟨t, ht, e, d, q1, q2, q3, _⟩ := hlinks1.mem_right y hy
                obtain ⟨B, d', hE⟩ := h1.ents _ e q1
                have := Option.some.inj (q3.symm.trans hE.at_); cases this
                exact hE.lt
              · obtain ⟨t, ht, e, d, q1, q2, q3, _⟩ := hlinks1.mem_right y hy
                obtain ⟨B, d', hE⟩ := h1.ents _ e q1
                have := Option.some.inj (q3.symm.trans hE.at_); cases this
                exact hE.own q2 hb
            obtain ⟨hen, hcall⟩ := hT f0 as res outs hres
            have hC := hcall w _ _ ios hG1 h1.okLt hargs
            have hu1 : backRows ({ st with en := setFrz st.en fz } : St).ent ioL outs = some u := by
              have : ∀ (l : List (Nat × Nat × Nat)) (o : List (List MV)), (∀ t ∈ l, t.1 ∉ fz) → backRows ({ st with en := setFrz st.en fz } : St).ent l o = backRows st.ent l o := by
                intro l
                induction l with
                | nil => intro o _; cases o <;> rfl
                | cons t l ih =>
                  intro o hl
                  obtain ⟨nm, off, n⟩ := t
                  cases o with
                  | nil => rfl
                  | cons o os =>
                    have e1 : ({ st with en := setFrz st.en fz } : St).ent nm = st.ent nm := setFrz_not fz st.en (hl (nm, off, n) (by simp))
                    simp only [backRows, e1, ih os fun t ht => hl t (by simp [ht])]
              rw [this ioL outs fun t ht => ?_]
              · exact hu
              · have := List.all_eq_true.1 hnf t.1 (List.mem_map.2 ⟨t, ht, rfl⟩)
                simpa using this
            have hrun : (execOp a.eval o).run P w = .ok (.enter f0 ⟨c.args.toList.map a.eval ++ cvs⟩) w := by
              simp only [execOp, ho, resolve, hcal, Sem.run_bind, hfa, Deferred.ofValue, Sem.run_pure, Result.andThen_ok, invoke, run_callFunc hen]
              congr 2
              apply Array.ext'
              simp
            unfold Oper.wp
            rw [hrun, Oper.upon_enter]
            refine hC.mono ?_
            rintro e w' ⟨x, rfl, hp⟩
            have hS := SR.afterCall hGG h1 hlinks1 hG1 hp hu1 o.dst (fz ++ ioL.map (·.1))
            exact hK x w' _ R (hS.weaken fun _ h => .inl h)
      · cases e
  · cases e
end Go.Proofs.YtkeelkeoijemiaaGreat.Ev

namespace Go.Proofs.YtkeelkeoijemiaaGreat.Ev
open Go Go.RowKit

variable {P : Program} {T : Tab} {G : Gh} {st : St} {a : Act} {w : World} {ok : Nat → Prop} {R : Nat → Nat → Option (Nat × Nat)} {lim : Nat → Prop} {o : Oper} {g : Nat} {r : Res}

theorem op_sound {K : Act → World → Prop} {Q : Exit → Act → World → Prop} (hT : TabOK P T) (hG : G.ok) (h : SR G st a w ok R lim) (hg : g ≠ 0) (hR : ∀ n, R n g = none) (e : evalOp P T o g st = some r)
    (hK : ∀ v w' ok' R', SR G (st.put o.dst r) (a.put o.dst v) w' ok' R' (fun x => lim x ∨ x = g) → K (a.put o.dst v) w') : o.wp P a w K Q := by
  have hsel : ∀ cs b, o.op ≠ .select cs b := by
    intro cs b ho
    simp [evalOp, ho] at e
  cases ho : o.op with
  | move x => exact (op_move h (.inl ho) e).wp hK
  | assign x => exact (op_move h (.inr ho) e).wp hK
  | pick c x y => exact (op_pick h ho e).wp hK
  | alloc t => exact (op_alloc h hg hR ho e).wp hK
  | box t x => exact (op_box h hg hR ho e).wp hK
  | load t x => exact (op_load h ho e).wp hK
  | store t p x => exact (op_store hG h ho e).wp hK
  | nilCheck x => exact (op_nilCheck h ho e).wp hK
  | binOp b t x y t2 => exact (op_pure h hsel (by simpa only [evalOp, ho] using e)).wp hK
  | unOp u t x => exact (op_pure h hsel (by simpa only [evalOp, ho] using e)).wp hK
  | index t x i => exact (op_pure h hsel (by simpa only [evalOp, ho] using e)).wp hK
  | convert s d x => exact (op_pure h hsel (by simpa only [evalOp, ho] using e)).wp hK
  | fieldAddr s x f => exact (op_fieldAddr h ho e).wp hK
  | field s x f => exact (op_field h ho e).wp hK
  | indexAddr t x i => exact (op_indexAddr h ho e).wp hK
  | build t ps => exact (op_build h ho e).wp hK
  | buildSlice t n ps => exact (op_buildSlice h hg hR ho e).wp hK
  | makeSlice t l c => exact (op_makeSlice h hg hR ho e).wp hK
  | slice t x lo hi mx =>
    cases hu : P.underlying t with
    | none => simp [evalOp, ho, hu] at e
    | some d =>
      cases d with
      | slice el => exact (op_slice h ho hu e).wp hK
      | string => exact (op_pure h hsel (by simpa only [evalOp, ho, hu] using e)).wp hK
      | _ => simp [evalOp, ho, hu] at e
  | extract x i => exact (op_extract h ho e).wp hK
  | makeFunc fn first caps =>
    cases fn with
    | func f =>
      obtain ⟨l⟩ := first
      cases l with
      | nil => exact (op_makeFunc h ho e).wp hK
      | cons _ _ => simp [evalOp, ho] at e
    | _ => simp [evalOp, ho] at e
  | call c =>
    cases hc : c.callee with
    | value f => exact op_call hT hG h ho hc e hK
    | invoke _ _ => simp [evalOp, ho, hc] at e
    | builtin b =>
      cases b with
      | len => exact (op_len h ho hc e).wp hK
      | append => exact (op_append hG h hg hR ho hc e).wp hK
      | max => exact (op_pure h hsel (by simpa only [evalOp, ho, hc] using e)).wp hK
      | min => exact (op_pure h hsel (by simpa only [evalOp, ho, hc] using e)).wp hK
      | _ => simp [evalOp, ho, hc] at e
  | _ => simp [evalOp, ho] at e

theorem wants_sound {ops : List Oper} {b : Bool} (h : SR G st a w ok R lim) (e : wants ops st o = some b) : Region.wanted o (yielded ops.toArray a.tmps) = b := by
  unfold wants at e
  unfold Region.wanted
  cases hgd : o.guard with
  | none => rw [hgd] at e; simpa using e
  | some jw =>
    obtain ⟨j, want⟩ := jw
    rw [hgd] at e
    simp only at e ⊢
    cases hd : (ops[j]?).bind (·.dst) with
    | none => rw [hd] at e; cases e
    | some d =>
      rw [hd] at e
      simp only at e
      split at e
      · rename_i hlt
        have hsl := h.slot d
        have hlen := h.lenEq
        have hy : yielded ops.toArray a.tmps j = match a.tmps[d]? with | some (.bool b) => some b | _ => none := by
          unfold yielded
          rw [show (ops.toArray[j]?) = ops[j]? from by simp, hd]
          rfl
        have hgd : a.tmps[d]? = some (a.tmps.getD d undef) := by
          have : d < a.tmps.size := hlen ▸ hlt
          simp [Array.getD, this]
        rw [hy, hgd]
        split at e
        · rename_i b' hm
          rw [hm] at hsl
          have hsl : a.tmps.getD d undef = .bool b' := hsl
          rw [hsl]; simpa using e
        · rename_i v hnb hm
          rw [hm] at hsl
          have hsl : a.tmps.getD d undef = v := hsl
          rw [hsl]
          cases e
          cases v with
          | bool q => exact absurd rfl (hnb q)
          | _ => rfl
        · cases e
      · cases e

/-- The states between two operations: gens up to here are used. -/
def limAt (ck i : Nat) : Nat → Prop := fun g => g < ck ∨ ∃ j, j < i ∧ g = ck + j

theorem evalOps_sound {ops : List Oper} {ck : Nat} (hck : ck ≠ 0) (hT : TabOK P T) (hG : G.ok) {Q : Exit → Act → World → Prop} :
    ∀ (rest : List Oper) (i : Nat) (st st' : St) (a : Act) (w : World) (ok : Nat → Prop) (R : Nat → Nat → Option (Nat × Nat)), (∀ k, rest[k]? = ops[i + k]?) → i + rest.length = ops.length →
      evalOps P T ops ck i rest st = some st' → SR G st a w ok R (limAt ck i) →
      (∀ a' w' ok' R', SR G st' a' w' ok' R' (limAt ck ops.length) → Q .normal a' w') → wpOps P ops.toArray Q (List.range' i rest.length) a w
  | [], i, st, st', a, w, ok, R, _, hl, e, h, hQ => by
    simp [evalOps] at e; subst e
    simp only [List.length_nil, List.range'_zero, wpOps]
    exact hQ a w ok R (h.weaken fun x hx => by simp at hl; subst hl; exact hx)
  | o :: rest, i, st, st', a, w, ok, R, hr, hl, e, h, hQ => by
    rw [List.length_cons, List.range'_succ, wpOps_cons]
    have ho : ops.toArray[i]? = some o := by have := hr 0; simp at this; simpa using this.symm
    simp only [evalOps] at e
    unfold wpOp
    rw [ho]
    simp only
    have hr' : ∀ k, rest[k]? = ops[i + 1 + k]? := fun k => by have := hr (k + 1); simp at this; rw [this]; congr 1; omega
    have hl' : i + 1 + rest.length = ops.length := by simp at hl; omega
    split at e
    · rename_i hw
      rw [wants_sound h hw, if_pos rfl]
      split at e
      · rename_i r hev
        left
        refine op_sound hT hG h (by omega) (fun n => ?_) hev fun v w' ok' R' h' => ?_
        · cases hn : R n (ck + i) with
          | none => rfl
          | some p =>
            rcases h.fresh n (ck + i) (by rw [hn]; simp) with h1 | ⟨j, h1, h2⟩ <;> omega
        · refine evalOps_sound hck hT hG rest (i + 1) _ st' _ w' ok' R' hr' hl' e (h'.weaken fun x hx => ?_) hQ
          rcases hx with (hx | ⟨j, h1, h2⟩) | hx
          · exact .inl hx
          · exact .inr ⟨j, by omega, h2⟩
          · exact .inr ⟨i, by omega, hx⟩
      · cases e
    · rename_i hw
      rw [wants_sound h hw, if_neg (by simp)]
      refine evalOps_sound hck hT hG rest (i + 1) _ st' _ w ok R hr' hl' e ((h.skip o.dst).weaken fun x hx => ?_) hQ
      rcases hx with hx | ⟨j, h1, h2⟩
      · exact .inl hx
      · exact .inr ⟨j, by omega, h2⟩
    · cases e
end Go.Proofs.YtkeelkeoijemiaaGreat.Ev

