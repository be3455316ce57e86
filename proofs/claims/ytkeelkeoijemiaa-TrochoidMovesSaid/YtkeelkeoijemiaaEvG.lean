/- Struct values, rows that are made, slices of rows, append. -/
import Derived.Test.YtkeelkeoijemiaaEvF
import Derived.IntWalk
namespace Go.Proofs.Ytkeelkeoijemiaa.Ev
open Go Go.RowKit

variable {P : Program} {T : Tab} {G : Gh} {st : St} {a : Act} {w : World} {ok : Nat → Prop} {R : Nat → Nat → Option (Nat × Nat)} {lim : Nat → Prop} {o : Oper} {g : Nat} {r : Res}

theorem list_set_fold (off : Nat) : ∀ (us : List Value) (k : Nat) (cs : Array Value), off + k + us.length ≤ cs.size →
    ((us.zipIdx k).foldl (fun cs (c, j) => cs.setIfInBounds (off + j) c) cs).toList = cs.toList.take (off + k) ++ us ++ cs.toList.drop (off + k + us.length)
  | [], k, cs, _ => by simp
  | u :: us, k, cs, h => by
    simp only [List.length_cons] at h
    rw [List.zipIdx_cons, List.foldl_cons, list_set_fold off us (k + 1) _ (by simp; omega)]
    have e := list_seg_step cs.toList (off + k) u us (by simp; omega)
    simp only [Array.toList_setIfInBounds, List.length_cons] at e ⊢
    rw [show off + (k + 1) = off + k + 1 from by omega, show off + k + (us.length + 1) = off + k + 1 + us.length from by omega]
    rw [show off + k + (us.length + 1) = off + k + 1 + us.length from by omega] at e
    exact e

/-- Two lists, place by place. -/
inductive All2 {α β : Type} (p : α → β → Prop) : List α → List β → Prop where
  | nil : All2 p [] []
  | cons {x : α} {y : β} {l : List α} {m : List β} : p x y → All2 p l m → All2 p (x :: l) (y :: m)

theorem fill_sound (place : Nat → Option (Nat × Nat)) : ∀ (ps : List (Nat × MV)) (qs : List (Nat × Value)) (cs cs' : List MV) (ds : Array Value),
    All2 (fun p q => p.1 = q.1 ∧ VR w ok R p.2 q.2) ps qs → VRs w ok R cs ds.toList → fillM place cs ps = some cs' → ∃ ds', Instr.fill place ds qs = some ds' ∧ VRs w ok R cs' ds'.toList
  | [], _, cs, cs', ds, .nil, hv, e => by simp [fillM] at e; subst e; exact ⟨ds, rfl, hv⟩
  | (i, m) :: ps, (_, v) :: qs, cs, cs', ds, .cons ⟨h1, h2⟩ hs, hv, e => by
    cases h1
    simp only [fillM] at e
    split at e
    · cases e
    · rename_i off size hp
      split at e
      · rename_i vs hvs
        split at e
        · cases e
        · rename_i hc
          obtain ⟨hr, _⟩ := cellsOf_sound hvs h2
          have hlen := hr.length
          have hl := hv.length
          simp only [Array.length_toList] at hlen hl
          have hc1 : v.cells.size = size := by omega
          have hc2 : ¬ (off + v.cells.size > ds.size) := by omega
          have hfold : (v.cells.zipIdx.foldl (fun cs (c, j) => cs.setIfInBounds (off + j) c) ds).toList = ds.toList.take off ++ v.cells.toList ++ ds.toList.drop (off + v.cells.toList.length) := by
            have := list_set_fold off v.cells.toList 0 ds (by simp; omega)
            rw [← Array.foldl_toList, Array.toList_zipIdx]
            simpa using this
          have hnew : VRs w ok R (putCells cs off vs) (v.cells.zipIdx.foldl (fun cs (c, j) => cs.setIfInBounds (off + j) c) ds).toList := by
            rw [hfold]; exact hv.put hr off
          obtain ⟨ds', h3, h4⟩ := fill_sound place ps qs _ cs' _ hs hnew e
          refine ⟨ds', ?_, h4⟩
          simp only [Instr.fill, hp]
          rw [if_neg (by simp [hc1]; omega)]
          exact h3
      · cases e

theorem parts_ev (h : SR G st a w ok R lim) : ∀ (l : List (Nat × Operand)), All2 (fun (p : Nat × MV) (q : Nat × Value) => p.1 = q.1 ∧ VR w ok R p.2 q.2) (l.map fun p => (p.1, st.ev p.2)) (l.map fun p => (p.1, a.eval p.2))
  | [] => .nil
  | p :: l => .cons ⟨rfl, h.ev p.2⟩ (parts_ev h l)

theorem placesO_run {fields : List Field} : ∀ {pl : List (Nat × Nat)}, placesO P fields = some pl → ∀ w, (fields.mapM (m := Sem) fun f => do pure (f.offset, ← sizeOf f.type)).run P w = .ok pl w := by
  induction fields with
  | nil => intro pl e w; simp [placesO] at e; subst e; simp
  | cons f fs ih =>
    intro pl e w
    simp only [placesO, List.mapM_cons, Option.bind_eq_bind, Option.pure_def] at e
    obtain ⟨x, hx, e⟩ := Option.bind_eq_some_iff.1 e
    obtain ⟨y, hy, e⟩ := Option.bind_eq_some_iff.1 e
    cases e
    obtain ⟨n, hn, rfl⟩ := Option.map_eq_some_iff.1 hx
    have h2 := ih (pl := y) hy w
    simp only [List.mapM_cons, Sem.run_bind, run_sizeOf' hn, Result.andThen_ok, Sem.run_pure, h2]

theorem op_build (h : SR G st a w ok R lim) {t : TypeId} {parts : Array (Nat × Operand)} (ho : o.op = .build t parts) (e : evalOp P T o g st = some r) : Goes P G o g r st a w lim := by
  have hp := parts_ev h parts.toList
  have hpe : (parts.map fun (i, x) => (i, a.eval x)).toList = parts.toList.map fun p => (p.1, a.eval p.2) := by simp
  simp only [evalOp, ho] at e
  split at e
  · rename_i fields z hu hz
    obtain ⟨v, hv, hzv⟩ := run_zero' hz w
    split at e
    · rename_i pl hpl
      obtain ⟨cs, hcs, rfl⟩ := Option.map_eq_some_iff.1 e
      obtain ⟨ds', h1, h2⟩ := fill_sound (pl[·]?) _ _ _ cs v.cells hp (by rw [hzv]; exact VRs_cv1 z) hcs
      refine goes_val h (v := .agg ds') ?_ ⟨ds'.toList, rfl, h2⟩
      have hpr := placesO_run hpl w
      have hpr' : (fields.mapM (m := Sem) fun f => do pure (f.offset, ← sizeOf f.type)).run P w = .ok pl.toArray w := by
        have := Array.mapM_eq_mapM_toList (m := Sem) (f := fun f : Field => do pure (f.offset, ← sizeOf f.type)) (xs := fields)
        rw [this]
        simp only [Sem.run_map, hpr, Result.andThen_ok]
      have hf : Instr.fill (fun x => pl.toArray[x]?) v.cells (parts.map fun (i, x) => (i, a.eval x)).toList = some ds' := by
        rw [hpe]; simpa using h1
      simp only [execOp, ho, Instr.build, Sem.run_bind, hv, Result.andThen_ok, run_underlying hu, hpr', hf]
      rfl
    · cases e
  · rename_i len el z hu hz
    obtain ⟨v, hv, hzv⟩ := run_zero' hz w
    split at e
    · rename_i sz hs
      obtain ⟨cs, hcs, rfl⟩ := Option.map_eq_some_iff.1 e
      obtain ⟨ds', h1, h2⟩ := fill_sound (fun i => some (i * sz, sz)) _ _ _ cs v.cells hp (by rw [hzv]; exact VRs_cv1 z) hcs
      refine goes_val h (v := .agg ds') ?_ ⟨ds'.toList, rfl, h2⟩
      have hf : Instr.fill (fun i => some (i * sz, sz)) v.cells (parts.map fun (i, x) => (i, a.eval x)).toList = some ds' := by rw [hpe]; exact h1
      simp only [execOp, ho, Instr.build, Sem.run_bind, hv, Result.andThen_ok, run_underlying hu, run_sizeOf' hs, hf]
      rfl
    · cases e
  · cases e

theorem sliceO_sound {t e : TypeId} (h : sliceO P t = some e) : P.underlying t = some (.slice e) := by
  unfold sliceO at h
  split at h
  · rename_i e' hu; cases h; exact hu
  · cases h

theorem op_buildSlice (h : SR G st a w ok R lim) (hg : g ≠ 0) (hR : ∀ n, R n g = none) {t : TypeId} {len : Nat} {parts : Array (Nat × Operand)} (ho : o.op = .buildSlice t len parts) (e : evalOp P T o g st = some r) :
    Goes P G o g r st a w lim := by
  have hp := parts_ev h parts.toList
  have hpe : (parts.map fun (i, x) => (i, a.eval x)).toList = parts.toList.map fun p => (p.1, a.eval p.2) := by simp
  simp only [evalOp, ho] at e
  split at e
  · rename_i el d hu hd
    have hu := sliceO_sound hu
    split at e
    · rename_i sz z hs hz
      split at e
      · rename_i hh
        obtain ⟨hzl, hle, hsz⟩ := hh
        obtain ⟨cs, hcs, rfl⟩ := Option.map_eq_some_iff.1 e
        obtain ⟨v, hv, hzv⟩ := run_zero' hz w
        have hzs : v.cells.size = sz := by rw [← hzl, ← hzv]; simp
        have hz0 : v.cells.toList ≠ [] := by intro h0; rw [hzv] at h0; subst h0; simp at hzl; omega
        have hzero : ∃ zero : Array Value, (if len * sz = 0 then (pure #[] : Sem (Array Value)) else do pure (← zeroValue el).cells).run P w = .ok zero w ∧ (len * sz ≠ 0 → zero = v.cells) := by
          by_cases h0 : len * sz = 0
          · exact ⟨#[], by rw [if_pos h0]; rfl, fun hn => absurd h0 hn⟩
          · exact ⟨v.cells, by rw [if_neg h0]; simp [hv], fun _ => rfl⟩
        obtain ⟨zero, hzr, hze⟩ := hzero
        have hini : ((Array.range (len * sz)).map (zero[· % zero.size]!)).toList = (List.replicate len v.cells.toList).flatten := by
          by_cases h0 : len * sz = 0
          · have : len = 0 := by
              rcases Nat.eq_zero_or_pos len with h | h
              · exact h
              · have := Nat.mul_pos h hsz; omega
            simp [this]
          · rw [hze h0]
            apply List.ext_getElem?
            intro i
            by_cases hi : i < len * sz
            · have := range_zero v.cells hz0 (len * sz) len i (by rw [hzs]; exact hi) hi
              rw [← this, Array.getElem?_toList]
            · rw [List.getElem?_eq_none (by simp; omega), List.getElem?_eq_none (by rw [flatten_replicate_len]; simp [hzs]; omega)]
        have hv0 : VRs w ok R (repCells (z.map cv1) len) ((Array.range (len * sz)).map (zero[· % zero.size]!)).toList := by
          rw [hini, ← hzv]; exact repCells_sound len _
        obtain ⟨ds', h1, h2⟩ := fill_sound (fun i => some (i * sz, sz)) _ _ _ cs _ hp hv0 hcs
        have hdl : ds'.size = len * sz := by
          have := fillM_len (fun i => some (i * sz, sz)) _ _ _ hcs
          have h3 := h2.length
          simp only [Array.length_toList] at h3
          rw [h3, this, repCells_len]; simp [hzl]
        refine ⟨_, w.alloc (.cells ds' el), .slice (some ⟨w.heap.size, 0, none⟩) len len, ?_, .inl rfl, ok, addR R d g (w.heap.size, 0), ?_⟩
        · have hf : Instr.fill (fun i => some (i * sz, sz)) ((Array.range (len * sz)).map (zero[· % zero.size]!)) (parts.map fun (i, x) => (i, a.eval x)).toList = some ds' := by rw [hpe]; exact h1
          have hn : ¬ (len * sz > 2 ^ 24) := by omega
          by_cases h0 : len * sz = 0
          · have hz1 : zero = #[] := by rw [if_pos h0] at hzr; simpa using hzr.symm
            rw [hz1] at hf
            simp only [execOp, ho, Instr.buildSlice, Sem.run_bind, run_underlying hu, Result.andThen_ok, run_sizeOf' hs, if_neg hn, Sem.run_ite, if_pos h0, hf, Sem.run_pure]
            simp [newRow]
          · rw [hze h0] at hf
            simp only [execOp, ho, Instr.buildSlice, Sem.run_bind, run_underlying hu, Result.andThen_ok, run_sizeOf' hs, if_neg hn, Sem.run_ite, if_neg h0, hv, hf, Sem.run_pure]
            simp [newRow]
        · have := h.new (m := .row d g 0 len (some len) sz) (v := .slice (some ⟨w.heap.size, 0, none⟩) len len) o.dst hg (hR d) ds' el h2 (fun i _ => by simp) [] (by simp) []
            ⟨w.heap.size, 0, len, addR_self, rfl, Nat.le_refl _, fun k hk => by cases hk; rfl, fun _ => ⟨ds', el, (0, 0), heap_alloc_self _ _, by omega⟩⟩
          simpa using this
      · cases e
    · cases e
  · cases e
  where
  fillM_len (place : Nat → Option (Nat × Nat)) : ∀ (ps : List (Nat × MV)) (cs cs' : List MV), fillM place cs ps = some cs' → cs'.length = cs.length
    | [], cs, cs', e => by simp [fillM] at e; rw [e]
    | (i, m) :: ps, cs, cs', e => by
      simp only [fillM] at e
      split at e
      · cases e
      · split at e
        · split at e
          · cases e
          · rename_i hc
            rw [fillM_len place ps _ cs' e]
            simp only [putCells, List.length_append, List.length_take, List.length_drop]; omega
        · cases e
  repCells_len (zs : List MV) : ∀ n, (repCells zs n).length = n * zs.length
    | 0 => by simp [repCells]
    | n + 1 => by simp only [repCells, List.length_append, repCells_len zs n, Nat.add_mul]; omega

theorem op_makeSlice (h : SR G st a w ok R lim) (hg : g ≠ 0) (hR : ∀ n, R n g = none) {t : TypeId} {l c : Operand} (ho : o.op = .makeSlice t l c) (e : evalOp P T o g st = some r) :
    Goes P G o g r st a w lim := by
  simp only [evalOp, ho] at e
  split at e
  · rename_i el d ln cn hu hd hl hc
    have hu := sliceO_sound hu
    obtain ⟨k1, hl⟩ := intOf?_sound (h.ev l) hl
    obtain ⟨k2, hc⟩ := intOf?_sound (h.ev c) hc
    split at e
    · rename_i sz z by_ hs hz hb
      split at e
      · rename_i hh
        obtain ⟨hzl, hsz, h0, h1, h2, h3⟩ := hh
        cases e
        obtain ⟨v, hv, hzv⟩ := run_zero' hz w
        obtain ⟨i, hi, rfl⟩ := run_bytes' hb
        have hzs : v.cells.size = sz := by rw [← hzl, ← hzv]; simp
        have hz0 : v.cells.toList ≠ [] := by intro h0; rw [hzv] at h0; subst h0; simp at hzl; omega
        have wl : IntKind.i64.wrap ln = ln := IntWalk.i64_in _ (by omega)
        have wc : IntKind.i64.wrap cn = cn := IntWalk.i64_in _ (by omega)
        have hzero : ∃ zero : Array Value, (if cn.toNat * sz = 0 then (pure #[] : Sem (Array Value)) else do pure (← zeroValue el).cells).run P w = .ok zero w ∧ (cn.toNat * sz ≠ 0 → zero = v.cells) := by
          by_cases h0 : cn.toNat * sz = 0
          · exact ⟨#[], by rw [if_pos h0]; rfl, fun hn => absurd h0 hn⟩
          · exact ⟨v.cells, by rw [if_neg h0]; simp [hv], fun _ => rfl⟩
        obtain ⟨zero, hzr, hze⟩ := hzero
        have hini : ∀ i, i < (List.replicate ln.toNat v.cells.toList).flatten.length → ((Array.range (cn.toNat * sz)).map (zero[· % zero.size]!))[i]? = (List.replicate ln.toNat v.cells.toList).flatten[i]? := by
          intro i hi
          rw [flatten_replicate_len] at hi
          simp only [Array.length_toList] at hi
          have hle : ln.toNat * sz ≤ cn.toNat * sz := Nat.mul_le_mul_right _ (by omega)
          rw [hzs] at hi
          have h0 : cn.toNat * sz ≠ 0 := by omega
          rw [hze h0]
          exact range_zero v.cells hz0 (cn.toNat * sz) ln.toNat i (by rw [hzs]; exact hi) (by omega)
        refine ⟨_, w.alloc (.cells ((Array.range (cn.toNat * sz)).map (zero[· % zero.size]!)) el), .slice (some ⟨w.heap.size, 0, none⟩) ln.toNat cn.toNat, ?_, .inl rfl, ok, addR R d g (w.heap.size, 0), ?_⟩
        · have t1 : ¬ (cn < 0) := by omega
          simp [execOp, ho, Instr.makeSlice, run_underlying hu, hl, hc, asInt, asIntOf, typeInfo, hi, wl, wc, t1]
          have t3 : ¬ ((281474976710656 < (i.bytes : Int) * cn ∨ ln < 0) ∨ cn < ln) := by omega
          rw [if_neg t3]
          by_cases h0 : cn.toNat * sz = 0
          · have hz1 : zero = #[] := by rw [if_pos h0] at hzr; simpa using hzr.symm
            subst hz1
            simp only [run_sizeOf' hs, Result.andThen_ok, if_pos h0, newRow, Sem.run_bind, run_newObj, Sem.run_pure]
            simp [h0]
          · rw [hze h0]
            simp only [run_sizeOf' hs, Result.andThen_ok, if_neg h0, hv, newRow, Sem.run_bind, run_newObj, Sem.run_pure]
            rfl
        · have := h.new (m := .row d g 0 ln.toNat (some cn.toNat) sz) (v := .slice (some ⟨w.heap.size, 0, none⟩) ln.toNat cn.toNat) o.dst hg (hR d) ((Array.range (cn.toNat * sz)).map (zero[· % zero.size]!)) el
            (cells := repCells (z.map cv1) ln.toNat) (by have := repCells_sound (w := w) (ok := ok) (R := R) ln.toNat v.cells.toList; rwa [hzv] at this ⊢) hini [] (by simp) []
            ⟨w.heap.size, 0, cn.toNat, addR_self, rfl, by omega, fun k hk => by cases hk; rfl, fun _ => ⟨_, el, (0, 0), heap_alloc_self _ _, by simp⟩⟩
          simpa using this
      · cases e
    · cases e
  · cases e

theorem bound_sound {x : Option Operand} {len d n : Nat} (h : SR G st a w ok R lim) (e : bound len (x.map st.ev) d = some n) :
    match x with
    | none => n = d
    | some y => ∃ k i, a.eval y = .int k i ∧ 0 ≤ i ∧ i ≤ len ∧ n = i.toNat := by
  cases x with
  | none => simp [bound] at e; exact e.symm
  | some y =>
    simp only [bound, Option.map_some] at e
    split at e
    · rename_i i hi
      obtain ⟨k, hk⟩ := intOf?_sound (h.ev y) hi
      split at e
      · rename_i hh; cases e; exact ⟨k, i, hk, hh.1, hh.2, rfl⟩
      · cases e
    · cases e

theorem run_sliceBound {x : Value} {k : IntKind} {i : Int} {y : Nat} {code : BoundsCode} (hx : x = .int k i) (h0 : 0 ≤ i) (h1 : i ≤ y) (w : World) : (Instr.sliceBound x y code).run P w = .ok i.toNat w := by
  subst hx
  simp [Instr.sliceBound, asIntOf, h0, h1]

/-- The bounds of a slice expression: what the evaluator tells holds of the machine, whatever the capacity is. -/
theorem bounds_sound (h : SR G st a w ok R lim) {len c : Nat} {cap : Option Nat} (hl : len ≤ c) (hc : ∀ k, cap = some k → c = k) {lo hi mx : Option Operand} {hN lN : Nat} {mN : Option Nat}
    (eh : bound len (hi.map st.ev) len = some hN) (el : bound hN (lo.map st.ev) 0 = some lN)
    (em : maxB len cap (mx.map st.ev) = some mN)
    (hm : ∀ k, mN = some k → hN ≤ k) (hnm : mx ≠ none → hi ≠ none) :
    ∃ m, (Instr.sliceBounds true len c (lo.map a.eval) (hi.map a.eval) (mx.map a.eval)).run P w = .ok (lN, hN, m) w ∧ lN ≤ hN ∧ hN ≤ m ∧ m ≤ c ∧ hN ≤ len ∧ (∀ k, mN = some k → m = k) ∧ (mN = none → m = c) := by
  have bh := bound_sound h eh
  have bl := bound_sound h el
  have hlo : ∀ code, (match lo.map a.eval with | some v => Instr.sliceBound v hN code | none => pure 0 : Sem Nat).run P w = .ok lN w ∧ lN ≤ hN := by
    intro code
    cases lo with
    | none => simp at bl; subst bl; exact ⟨rfl, Nat.zero_le _⟩
    | some y => obtain ⟨k, i, h1, h2, h3, h4⟩ := bl; subst h4; exact ⟨run_sliceBound h1 h2 h3 w, by omega⟩
  cases mx with
  | none =>
    simp only [maxB, Option.map_none, Option.some.injEq] at em; subst em
    have hhi : ∀ code, (match hi.map a.eval with | some v => Instr.sliceBound v c code | none => pure len : Sem Nat).run P w = .ok hN w ∧ hN ≤ len := by
      intro code
      cases hi with
      | none => simp at bh; subst bh; exact ⟨rfl, Nat.le_refl _⟩
      | some y => obtain ⟨k, i, h1, h2, h3, h4⟩ := bh; subst h4; exact ⟨run_sliceBound h1 h2 (by omega) w, by omega⟩
    refine ⟨c, ?_, (hlo .sliceB).2, by have := (hhi .sliceAcap).2; omega, Nat.le_refl _, (hhi .sliceAcap).2, (fun k hk => by cases hk), fun _ => rfl⟩
    have h1 := (hhi .sliceAcap).1
    have h2 := (hlo .sliceB).1
    cases hi <;> cases lo <;> simp_all [Instr.sliceBounds]
  | some y =>
    cases hi with
    | none => exact absurd rfl (hnm (by simp))
    | some z =>
      have hmx : ∃ k i, a.eval y = .int k i ∧ 0 ≤ i ∧ i ≤ c ∧ mN = some i.toNat := by
        simp only [maxB, Option.map_some, Option.map_eq_some_iff] at em
        obtain ⟨q, hq, rfl⟩ := em
        have := bound_sound (x := some y) h hq
        obtain ⟨k, i, h1, h2, h3, rfl⟩ := this
        refine ⟨k, i, h1, h2, ?_, rfl⟩
        cases cap with
        | some cc => have := hc cc rfl; simp at h3; omega
        | none => simp at h3; omega
      obtain ⟨k, i, h1, h2, h3, rfl⟩ := hmx
      obtain ⟨k', i', h1', h2', h3', rfl⟩ := bh
      have hle := hm _ rfl
      refine ⟨i.toNat, ?_, (hlo .slice3C).2, hle, by omega, by omega, (fun k hk => by cases hk; rfl), fun hn => by cases hn⟩
      have e1 := run_sliceBound (P := P) (code := .slice3Acap) h1 h2 h3 w
      have e2 := run_sliceBound (P := P) (y := i.toNat) (code := .slice3B) h1' h2' (by omega) w
      have e3 := (hlo .slice3C).1
      cases lo <;> simp_all [Instr.sliceBounds]
end Go.Proofs.Ytkeelkeoijemiaa.Ev
