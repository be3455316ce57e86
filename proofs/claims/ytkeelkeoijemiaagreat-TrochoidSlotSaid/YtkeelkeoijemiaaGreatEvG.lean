/- One operation: what the evaluator tells is what the machine does. The operations, one by one. Struct values, rows that are made, slices of rows, append. -/
import Derived.Test.YtkeelkeoijemiaaGreatEvD
import Derived.Laws.StructEq
import Derived.Laws.Entries
import Derived.IntWalk
set_option linter.unusedVariables false
set_option linter.unusedSimpArgs false
namespace Go.Proofs.YtkeelkeoijemiaaGreat.Ev
open Go Go.RowKit

variable {P : Program} {T : Tab} {G : Gh} {st : St} {a : Act} {w : World} {ok : Nat → Prop} {R : Nat → Nat → Option (Nat × Nat)} {lim : Nat → Prop} {o : Oper} {g : Nat} {r : Res}

/-- The operation goes, and keeps the invariant. -/
def Goes (P : Program) (G : Gh) (o : Oper) (g : Nat) (r : Res) (st : St) (a : Act) (w : World) (lim : Nat → Prop) : Prop :=
  ∃ n w' v, (execOp a.eval o).run P w = .ok n w' ∧ (n = .value v ∨ (n = .skip ∧ v = undef)) ∧ ∃ ok' R', SR G (st.put o.dst r) (a.put o.dst v) w' ok' R' (fun x => lim x ∨ x = g)

theorem SR.weaken {lim' : Nat → Prop} (h : SR G st a w ok R lim) (hl : ∀ x, lim x → lim' x) : SR G st a w ok R lim' := { h with fresh := fun n g hn => hl _ (h.fresh n g hn) }

theorem Goes.wp {K : Act → World → Prop} {Q : Exit → Act → World → Prop} (h : Goes P G o g r st a w lim)
    (hK : ∀ v w' ok' R', SR G (st.put o.dst r) (a.put o.dst v) w' ok' R' (fun x => lim x ∨ x = g) → K (a.put o.dst v) w') : o.wp P a w K Q := by
  obtain ⟨n, w', v, hr, hn, ok', R', hs⟩ := h
  unfold Oper.wp
  rw [hr]
  rcases hn with rfl | ⟨rfl, rfl⟩
  · exact hK v w' ok' R' hs
  · exact hK undef w' ok' R' hs

/-- A value, the world as it was. -/
theorem goes_val (h : SR G st a w ok R lim) {m : MV} {v : Value} {rd : List Nat} (hr : (execOp a.eval o).run P w = .ok (.value v) w) (hv : VR w ok R m v) : Goes P G o g { val := m, rd := rd } st a w lim :=
  ⟨_, w, v, hr, .inl rfl, ok, R, (h.val o.dst hv rd).weaken fun _ h => .inl h⟩

theorem run_isAgg' {t : TypeId} {b : Bool} (h : aggO P t = some b) (w : World) : (isAgg t).run P w = .ok b w := by
  unfold aggO at h
  cases hu : P.underlying t with
  | none => rw [hu] at h; cases h
  | some d =>
    rw [hu] at h
    cases d <;> simp_all [isAgg, run_underlying hu]
theorem run_sizeOf' {t : TypeId} {n : Nat} (h : szO P t = some n) (w : World) : (sizeOf t).run P w = .ok n w := by
  unfold szO at h
  obtain ⟨i, hi, rfl⟩ := Option.map_eq_some_iff.1 h
  simp [sizeOf, typeInfo, hi]
theorem run_zero' {t : TypeId} {z : List Value} (h : zeroO P t = some z) (w : World) : ∃ v, (zeroValue t).run P w = .ok v w ∧ v.cells.toList = z := by
  unfold zeroO at h
  obtain ⟨v, hv, rfl⟩ := Option.map_eq_some_iff.1 h
  obtain ⟨i, hi, hz⟩ := Option.bind_eq_some_iff.1 hv
  exact ⟨v, by simp [zeroValue, typeInfo, hi, hz], rfl⟩
theorem run_bytes' {t : TypeId} {n : Nat} (h : bytesO P t = some n) : ∃ i, P.info? t = some i ∧ i.bytes = n := by
  unfold bytesO at h
  exact Option.map_eq_some_iff.1 h

theorem eqFs_sound {d : Nat} {xs ys : Array Value} (ih : ∀ t x y r, eqT P d t x y = some r → ∀ w, (Op.equalIn d t x y).run P w = .ok r w) : ∀ (fs : List Field) (r : Bool), eqFs P (eqT P d) xs ys fs = some r → ∀ w, (Op.eqFields d xs ys fs).run P w = .ok r w
  | [], r, e, w => by simp only [eqFs, Option.some.injEq] at e; subst e; rfl
  | f :: fs, r, e, w => by
    simp only [eqFs] at e
    split at e
    · cases e
    · rename_i hn
      have hn' : f.name ≠ "_" := by simpa using hn
      split at e
      · rename_i a b h1 h2
        split at e
        · rename_i p q h3 h4
          cases e
          simp only [Op.eqFields, if_pos hn', Sem.run_bind, pureRun_sound _ _ h1 w, pureRun_sound _ _ h2 w, ih _ _ _ _ h3 w, Result.andThen_ok]
          cases p with
          | false => simp
          | true => simpa using eqFs_sound ih fs q h4 w
        · cases e
      · cases e
theorem eqT_sound : ∀ (d : Nat) (t : TypeId) (x y : Value) (r : Bool), eqT P d t x y = some r → ∀ w, (Op.equalIn d t x y).run P w = .ok r w
  | 0, _, _, _, _, e, _ => by simp [eqT] at e
  | d + 1, t, x, y, r, e, w => by
    simp only [eqT] at e
    split at e
    · rename_i a b hu
      cases e
      exact run_equalIn_bool' w d t a b hu
    · rename_i k0 k a k' b hu
      split at e
      · rename_i hk
        subst hk
        cases e
        exact run_equalIn_int w d t k k0 a b hu
      · cases e
    · rename_i fs xs ys hu
      split at e
      · cases e
      · rename_i hs
        have hf : P.fieldsOf t = fs := by simp [Program.fieldsOf, hu]
        rw [run_equalIn_struct w d t xs ys (by rw [hf]; exact hu) (by simpa using hs), hf]
        exact eqFs_sound (eqT_sound d) fs.toList r e w
    · cases e
theorem eqOp_sound {ev : Operand → MV} {ρ : Operand → Value} {v : Value} (hρ : ∀ x v, toVal (ev x) = some v → ρ x = v) (e : eqOp P o ev = some v) (w : World) : (execOp ρ o).run P w = .ok (.value v) w := by
  unfold eqOp at e
  split at e
  · rename_i t x y p ho
    split at e
    · rename_i a b h1 h2
      split at e
      · rename_i hg
        obtain ⟨r, hr, rfl⟩ := Option.map_eq_some_iff.1 e
        simp only [execOp, ho, hρ x _ h1, hρ y _ h2, Sem.run_bind, run_eqGuard_agg w _ t x y a b hg, Result.andThen_ok, run_eql_struct, eqT_sound 10000 t _ _ r hr w, Sem.run_pure]
      · cases e
    · cases e
  · rename_i t x y p ho
    split at e
    · rename_i a b h1 h2
      split at e
      · rename_i hg
        obtain ⟨r, hr, rfl⟩ := Option.map_eq_some_iff.1 e
        simp only [execOp, ho, hρ x _ h1, hρ y _ h2, Sem.run_bind, run_eqGuard_agg w _ t x y a b hg, Result.andThen_ok, run_neq_struct, eqT_sound 10000 t _ _ r hr w, Sem.run_pure]
      · cases e
    · cases e
  · cases e

theorem pureOp_sound (h : SR G st a w ok R lim) (hs : ∀ cs b, o.op ≠ .select cs b) {m : MV} (e : pureOp P o st.ev = some m) : ∃ v, (execOp a.eval o).run P w = .ok (.value v) w ∧ VR w ok R m v := by
  unfold pureOp at e
  split at e
  · rename_i hall
    have hc : execOp (fun x => (toVal (st.ev x)).getD undef) o = execOp a.eval o := by
      refine execOp_congr o hs fun x hx => ?_
      have h1 := List.all_eq_true.1 hall x (by simpa using hx)
      obtain ⟨v, hv⟩ := Option.isSome_iff_exists.1 h1
      rw [hv]; exact (toVal_sound _ _ _ (h.ev x) hv).symm
    split at e
    · rename_i v hv
      cases e
      exact ⟨v, eqOp_sound (fun x v hx => toVal_sound _ _ _ (h.ev x) hx) hv w, rfl⟩
    · split at e
      · rename_i v hv
        cases e
        rw [hc] at hv
        exact ⟨v, pureRun_sound _ _ hv w, rfl⟩
      · cases e
  · cases e

/-- The cells behind a pointer. -/
theorem behind_sound (h : SR G st a w ok R lim) {m : MV} {x : Value} {cs : List MV} (e : behind st.ent m = some cs) (hv : VR w ok R m x) :
    ∃ B o vs, x = .pointer (some ⟨B, o, none⟩) ∧ CellsAt w B o vs ∧ VRs w ok R cs vs := by
  cases m with
  | cp c =>
    simp only [behind, Option.some.injEq] at e; subst e
    obtain ⟨b, o, vs, hx, _, hc, hvs⟩ := hv
    exact ⟨b, o, vs, hx, hc, VRs.mono (Ext.refl _ _) (fun _ h => h) (fun _ _ _ h => by cases h) _ _ hvs⟩
  | ptr nm g off =>
    simp only [behind] at e
    split at e
    · rename_i en he
      split at e
      · rename_i hg
        cases e
        obtain ⟨B, d, hR, hx⟩ := hv
        obtain ⟨B', d', hE⟩ := h.ents nm en he
        have := Option.some.inj ((hg ▸ hR).symm.trans hE.at_); cases this
        obtain ⟨c, el, vs, h1, h2, h3, _⟩ := hE.body
        refine ⟨B, d + off, vs.drop off, hx, ?_, h2.drop off⟩
        intro i hi
        simp only [List.length_drop] at hi
        simp only [World.cell?, h1, List.getElem?_drop, Nat.add_assoc]
        exact h3 (off + i) (by omega)
      · cases e
    · cases e
  | _ => simp [behind] at e

theorem takeT_sound {t : TypeId} {cs : List MV} {v : MV} (e : takeT P t cs = some v) {B o : Nat} {vs : List Value} (hc : CellsAt w B o vs) (hv : VRs w ok R cs vs) :
    ∃ x, (loadVar t ⟨B, o, none⟩).run P w = .ok x w ∧ VR w ok R v x := by
  unfold takeT at e
  split at e
  · rename_i n ha hn
    split at e
    · rename_i hle
      cases e
      have hl := hv.length
      have h1 := run_loadCells_list (P := P) w ⟨B, o, none⟩ (vs.take n) fun j x hx => by
        have hj : j < (vs.take n).length := by
          rcases Nat.lt_or_ge j (vs.take n).length with h | h
          · exact h
          · rw [List.getElem?_eq_none h] at hx; cases hx
        simp only [List.length_take] at hj
        rw [List.getElem?_take_of_lt (by omega)] at hx
        have := hc j (by omega)
        have hadd : (⟨B, o, none⟩ : Addr).add j = ⟨B, o + j, none⟩ := by unfold Addr.add; split <;> simp_all
        rw [hadd, this, hx]
      have hlen : (vs.take n).length = n := by simp; omega
      rw [hlen] at h1
      refine ⟨.agg (vs.take n).toArray, ?_, ⟨_, rfl, hv.take n⟩⟩
      simp [loadVar, run_isAgg' ha, run_sizeOf' hn, h1]
    · cases e
  · rename_i n ha hn
    split at e
    · rename_i c cs'
      cases e
      obtain ⟨v0, vt, rfl, h1, h2⟩ := hv
      have := hc 0 (by simp)
      simp at this
      exact ⟨v0, by simp [loadVar, run_isAgg' ha, this], h1⟩
    · cases e
  · cases e

theorem cellOk_sound {m : MV} {x : Value} (hv : VR w ok R m x) (h : cellOk m = true) : x.oneCell' = true := by
  cases m with
  | sc v => obtain rfl : x = v := hv; cases x <;> first | rfl | simp [cellOk] at h
  | agg _ => simp [cellOk] at h
  | tup _ => simp [cellOk] at h
  | any => simp [cellOk] at h
  | fs _ _ _ => obtain ⟨_, _, rfl, _⟩ := hv; rfl
  | cp _ => obtain ⟨_, _, _, rfl, _⟩ := hv; rfl
  | row _ _ _ _ _ _ => obtain ⟨_, _, _, _, rfl, _⟩ := hv; rfl
  | ptr _ _ _ => obtain ⟨_, _, _, rfl⟩ := hv; rfl
  | fn _ _ => obtain ⟨_, rfl, _⟩ := hv; rfl
theorem oneCell_cells {x : Value} (h : x.oneCell' = true) : x.cells = #[x] := by cases x <;> first | rfl | simp [Value.oneCell'] at h
theorem cellsOk_sound : ∀ {cs : List MV} {vs : List Value}, VRs w ok R cs vs → cs.all cellOk = true → ∀ v ∈ vs, v.oneCell' = true
  | [], _, h, _, v, hv => by cases h; cases hv
  | c :: cs, _, ⟨v0, vt, e, h1, h2⟩, ha, v, hv => by
    subst e
    simp only [List.all_cons, Bool.and_eq_true] at ha
    rcases List.mem_cons.1 hv with rfl | hv
    · exact cellOk_sound h1 ha.1
    · exact cellsOk_sound h2 ha.2 v hv
theorem cellsOf_sound {m : MV} {x : Value} {cs : List MV} (e : cellsOf m = some cs) (hv : VR w ok R m x) : VRs w ok R cs x.cells.toList ∧ ∀ v ∈ x.cells.toList, v.oneCell' = true := by
  have other : ∀ m, cellOk m = true → VR w ok R m x → VRs w ok R [m] x.cells.toList ∧ ∀ v ∈ x.cells.toList, v.oneCell' = true := by
    intro m hm hv
    have h1 := cellOk_sound hv hm
    rw [oneCell_cells h1]
    exact ⟨VRs.cons hv VRs.nil, by simpa using h1⟩
  cases m with
  | agg c =>
    simp only [cellsOf] at e
    split at e
    · rename_i ha
      cases e
      obtain ⟨vs, rfl, h1⟩ := hv
      exact ⟨h1, cellsOk_sound h1 ha⟩
    · cases e
  | _ =>
    simp only [cellsOf] at e
    split at e
    · rename_i hm; cases e; exact other _ hm hv
    · cases e

theorem VRs.put {cs : List MV} {vs : List Value} (h : VRs w ok R cs vs) {ns : List MV} {us : List Value} (k : VRs w ok R ns us) (off : Nat) : VRs w ok R (putCells cs off ns) (vs.take off ++ us ++ vs.drop (off + us.length)) := by
  unfold putCells
  rw [k.length]
  exact ((h.take off).append k).append (h.drop _)

theorem add_addr (B o i : Nat) : (⟨B, o, none⟩ : Addr).add i = ⟨B, o + i, none⟩ := by
  unfold Addr.add
  split
  · rename_i h; subst h; rfl
  · rfl

theorem repCells_sound : ∀ (n : Nat) (zs : List Value), VRs w ok R (repCells (zs.map cv1) n) (List.replicate n zs).flatten
  | 0, _ => VRs.nil
  | n + 1, zs => by
    rw [List.replicate_succ, List.flatten_cons]
    exact (VRs_cv1 zs).append (repCells_sound n zs)
theorem flatten_replicate_get (zs : List Value) (hz : zs ≠ []) : ∀ (n i : Nat), i < n * zs.length → (List.replicate n zs).flatten[i]? = zs[i % zs.length]?
  | 0, i, h => by simp at h
  | n + 1, i, h => by
    rw [List.replicate_succ, List.flatten_cons]
    have hpos : 0 < zs.length := List.length_pos_iff.2 hz
    by_cases hi : i < zs.length
    · rw [List.getElem?_append_left hi, Nat.mod_eq_of_lt hi]
    · have h2 : i - zs.length < n * zs.length := by rw [Nat.add_mul, Nat.one_mul] at h; omega
      rw [List.getElem?_append_right (by omega), flatten_replicate_get zs hz n _ h2]
      have h3 := Nat.mod_eq_sub_mod (a := i) (b := zs.length) (by omega)
      rw [h3]
theorem flatten_replicate_len (zs : List Value) (n : Nat) : (List.replicate n zs).flatten.length = n * zs.length := by simp

/-- Zero cells, as the model lays them. -/
theorem range_zero (zs : Array Value) (hz : zs.toList ≠ []) (n m i : Nat) (hi : i < m * zs.size) (hm : i < n) :
    ((Array.range n).map (zs[· % zs.size]!))[i]? = (List.replicate m zs.toList).flatten[i]? := by
  have hs : zs.toList.length = zs.size := by simp
  have hp : 0 < zs.size := by
    rcases Nat.eq_zero_or_pos zs.size with h | h
    · exact absurd (by simpa using h) hz
    · exact h
  rw [flatten_replicate_get zs.toList hz m i (by rw [hs]; exact hi), hs]
  have hl : i % zs.size < zs.size := Nat.mod_lt _ hp
  simp [hm, hl, getElem!_pos]

theorem op_fieldAddr (h : SR G st a w ok R lim) {s : TypeId} {x : Operand} {f : Nat} (ho : o.op = .fieldAddr s x f) (e : evalOp P T o g st = some r) : Goes P G o g r st a w lim := by
  have hx := h.ev x
  simp only [evalOp, ho] at e
  split at e
  · rename_i fields hu
    split at e
    · rename_i fd hf
      split at e
      · rename_i k nm gen off hs hm
        cases e
        rw [hm] at hx
        obtain ⟨B, d, hR, hxa⟩ := hx
        refine goes_val h (v := .pointer (some ⟨B, d + (off + fd.offset), none⟩)) ?_ ⟨B, d, hR, rfl⟩
        simp [execOp, ho, Instr.fieldAt, run_underlying hu, hf, hxa, Instr.sureAddr, fieldPlace, run_sizeOf' hs, add_addr, Nat.add_assoc]
      · rename_i k cs hs hm
        cases e
        rw [hm] at hx
        obtain ⟨b, o', vs, hxa, hb, hc, hv⟩ := hx
        refine goes_val h (v := .pointer (some ⟨b, o' + fd.offset, none⟩)) ?_ ⟨b, _, vs.drop fd.offset, rfl, hb, ?_, hv.drop _⟩
        · simp [execOp, ho, Instr.fieldAt, run_underlying hu, hf, hxa, Instr.sureAddr, fieldPlace, run_sizeOf' hs, add_addr]
        · intro i hi
          simp only [List.length_drop] at hi
          rw [List.getElem?_drop, Nat.add_assoc]
          exact hc _ (by omega)
      · cases e
    · cases e
  · cases e
end Go.Proofs.YtkeelkeoijemiaaGreat.Ev

namespace Go.Proofs.YtkeelkeoijemiaaGreat.Ev
open Go Go.RowKit

variable {P : Program} {T : Tab} {G : Gh} {st : St} {a : Act} {w : World} {ok : Nat → Prop} {R : Nat → Nat → Option (Nat × Nat)} {lim : Nat → Prop} {o : Oper} {g : Nat} {r : Res}

theorem op_move (h : SR G st a w ok R lim) {x : Operand} (ho : o.op = .move x ∨ o.op = .assign x) (e : evalOp P T o g st = some r) : Goes P G o g r st a w lim := by
  rcases ho with ho | ho
  all_goals
    simp only [evalOp, ho] at e
    cases e
    exact goes_val h (v := a.eval x) (by simp [execOp, ho]) (h.ev x)

theorem op_pick (h : SR G st a w ok R lim) {c x y : Operand} (ho : o.op = .pick c x y) (e : evalOp P T o g st = some r) : Goes P G o g r st a w lim := by
  have hc := h.ev c
  simp only [evalOp, ho] at e
  split at e
  · rename_i t hm
    cases e
    rw [hm] at hc
    have hc : a.eval c = .bool t := hc
    cases t
    · exact goes_val h (v := a.eval y) (by simp [execOp, ho, hc, asBool]) (h.ev y)
    · exact goes_val h (v := a.eval x) (by simp [execOp, ho, hc, asBool]) (h.ev x)
  · cases e

theorem op_alloc (h : SR G st a w ok R lim) (hg : g ≠ 0) (hR : ∀ n, R n g = none) {t : TypeId} (ho : o.op = .alloc t) (e : evalOp P T o g st = some r) : Goes P G o g r st a w lim := by
  simp only [evalOp, ho] at e
  split at e
  · rename_i d z hd hz
    cases e
    obtain ⟨v, hv, hzv⟩ := run_zero' hz w
    refine ⟨_, w.alloc (.cells v.cells t), .pointer (some ⟨w.heap.size, 0, none⟩), ?_, .inl rfl, ok, addR R d g (w.heap.size, 0), ?_⟩
    · simp [execOp, ho, Instr.alloc, hv, newVar, newRow]
    · have := h.new (m := .ptr d g 0) (v := .pointer (some ⟨w.heap.size, 0, none⟩)) o.dst hg (hR d) v.cells t (VRs_cv1 z) (fun i _ => by rw [← hzv]; simp) [] (by simp) [] ⟨w.heap.size, 0, addR_self, rfl⟩
      simpa using this
  · cases e

theorem op_box (h : SR G st a w ok R lim) (hg : g ≠ 0) (hR : ∀ n, R n g = none) {t : TypeId} {x : Operand} (ho : o.op = .box t x) (e : evalOp P T o g st = some r) : Goes P G o g r st a w lim := by
  simp only [evalOp, ho] at e
  split at e
  · rename_i d cs hd hc
    cases e
    obtain ⟨h1, _⟩ := cellsOf_sound hc (h.ev x)
    refine ⟨_, w.alloc (.cells (a.eval x).cells t), .pointer (some ⟨w.heap.size, 0, none⟩), ?_, .inl rfl, ok, addR R d g (w.heap.size, 0), ?_⟩
    · simp [execOp, ho, Instr.box, newVar, newRow]
    · have := h.new (m := .ptr d g 0) (v := .pointer (some ⟨w.heap.size, 0, none⟩)) o.dst hg (hR d) (a.eval x).cells t h1 (fun i _ => by simp) [] (by simp) [] ⟨w.heap.size, 0, addR_self, rfl⟩
      simpa using this
  · cases e

theorem op_load (h : SR G st a w ok R lim) {t : TypeId} {x : Operand} (ho : o.op = .load t x) (e : evalOp P T o g st = some r) : Goes P G o g r st a w lim := by
  simp only [evalOp, ho] at e
  split at e
  · rename_i cs hb
    split at e
    · rename_i v hv
      cases e
      obtain ⟨B, o', vs, hx, hc, hvs⟩ := behind_sound h hb (h.ev x)
      obtain ⟨y, hy, hvy⟩ := takeT_sound hv hc hvs
      exact goes_val h (v := y) (by simp [execOp, ho, Instr.loadAt, hx, Instr.sureAddr, hy]) hvy
    · cases e
  · cases e

theorem op_store (hG : G.ok) (h : SR G st a w ok R lim) {t : TypeId} {p x : Operand} (ho : o.op = .store t p x) (e : evalOp P T o g st = some r) : Goes P G o g r st a w lim := by
  simp only [evalOp, ho] at e
  split at e
  · rename_i nm gen off n cs hp hn hc
    split at e
    · rename_i en he
      split at e
      · rename_i hh
        obtain ⟨hg, hf, hl, ho2⟩ := hh
        cases e
        obtain ⟨h1, h2⟩ := cellsOf_sound hc (h.ev x)
        have hpx := h.ev p
        rw [hp] at hpx
        obtain ⟨B, d, hR, hpa⟩ := hpx
        obtain ⟨B', d', hE⟩ := h.ents nm en he
        have := Option.some.inj ((hg ▸ hR).symm.trans hE.at_); cases this
        obtain ⟨c, el, vs, hB, hvs, hcv, hsz⟩ := hE.body
        have hlen := h1.length
        have hvl := hvs.length
        have hsz' : (a.eval x).cells.toList = [] ∨ d + off + 0 + (a.eval x).cells.toList.length ≤ c.size := by
          rcases hsz with hsz | hsz
          · left
            have : vs.length = 0 := by simp [hsz]
            apply List.eq_nil_of_length_eq_zero; omega
          · right; omega
        have hst : ∃ c' : Array Value, (storeCells ⟨B, d + off, none⟩ (a.eval x).cells.toList).run P w = .ok () (w.setRow B c') ∧ c'.size = c.size ∧ (∀ i, (i < d + off ∨ d + off + n ≤ i) → c'[i]? = c[i]?) ∧
            ∀ i, i < n → c'[d + off + i]? = (a.eval x).cells.toList[i]? := by
          rcases hsz' with hs0 | hs0
          · rw [hs0]
            refine ⟨c, ?_, rfl, fun _ _ => rfl, fun i hi => ?_⟩
            · rw [setRow_self w B c el (0, 0) hB]; rfl
            · rw [hs0] at hlen; simp at hlen; omega
          · have hr := run_storeCells_at P B (d + off) el (a.eval x).cells.toList 0 c w hB hs0 h2
            refine ⟨_, hr, ?_, ?_, ?_⟩
            · simp only [List.size_toArray, List.length_append, List.length_take, List.length_drop, Array.length_toList] at hs0 ⊢; omega
            · intro i hi
              have hlc : c.toList.length = c.size := by simp
              simp only [List.getElem?_toArray, Nat.add_zero] at hs0 ⊢
              rcases hi with hi | hi
              · rw [List.append_assoc, List.getElem?_append_left (by rw [List.length_take]; omega), List.getElem?_take_of_lt hi]; simp
              · rw [List.getElem?_append_right (by rw [List.length_append, List.length_take]; omega), List.getElem?_drop, List.length_append, List.length_take]
                have : d + off + (a.eval x).cells.toList.length + (i - (min (d + off) c.toList.length + (a.eval x).cells.toList.length)) = i := by omega
                rw [this]; simp
            · intro i hi
              have hlc : c.toList.length = c.size := by simp
              simp only [List.getElem?_toArray, Nat.add_zero] at hs0 ⊢
              rw [List.append_assoc, List.getElem?_append_right (by rw [List.length_take]; omega), List.length_take, List.getElem?_append_left (by omega)]
              congr 1; omega
        obtain ⟨c', hrun, hs, hcs, hcn⟩ := hst
        have hx := Ext.setRow (ok := ok) hB hs (hE.own hf)
        have hvs' := VRs.mono hx (fun _ h => h) (fun _ _ _ h => h) _ _ hvs
        have h1' := VRs.mono hx (fun _ h => h) (fun _ _ _ h => h) _ _ h1
        have hnew := hvs'.put h1' off
        have hE' : ER G (w.setRow B c') ok R nm { en with cells := putCells en.cells off cs } B d := by
          refine ⟨hE.at_, ⟨c', el, _, setRow_heap _ _ _ _ _ _ hB, hnew, ?_, ?_⟩, fun hft => ?_, fun _ => hE.own hf, hE.base, fun h0 => ⟨hf, ?_⟩⟩
          · intro i hi
            by_cases hi1 : i < off
            · rw [hcs _ (by omega), List.append_assoc, List.getElem?_append_left (by rw [List.length_take]; omega), List.getElem?_take_of_lt hi1]
              exact hcv i (by omega)
            · by_cases hi2 : i < off + n
              · rw [show d + i = d + off + (i - off) from by omega, hcn _ (by omega), List.append_assoc, List.getElem?_append_right (by rw [List.length_take]; omega), List.length_take, List.getElem?_append_left (by omega)]
                congr 1; omega
              · rw [hcs _ (by omega), List.getElem?_append_right (by rw [List.length_append, List.length_take]; omega), List.getElem?_drop, List.length_append, List.length_take]
                simp only [List.length_append, List.length_take, List.length_drop] at hi
                rw [hcv i (by omega)]
                congr 1; omega
          · rcases hsz with hsz | hsz
            · left; subst hsz; simp at hvl; have : (a.eval x).cells.toList.length = 0 := by omega
              simp [List.eq_nil_of_length_eq_zero this]
            · right; rw [hs]; simp only [List.length_append, List.length_take, List.length_drop]; omega
          · rw [hf] at hft; cases hft
          · obtain ⟨_, y, hy, h5, h6, h7, h8⟩ := hE.io h0
            refine ⟨y, hy, h5, h6, h7, ?_⟩
            rw [h8]; simp only [putCells, List.length_append, List.length_take, List.length_drop]; omega
        have hlim : ∀ n g', R n g' ≠ none → (lim g' ∨ g' = g) := fun n g' h' => .inl (h.fresh n g' h')
        refine ⟨.skip, w.setRow B c', undef, ?_, .inr ⟨rfl, rfl⟩, ok, R, ?_⟩
        · have hsize : (a.eval x).cells.size = n := by have := hlen; simp at this; omega
          simp [execOp, ho, Instr.storeAt, hpa, Instr.sureAddr, storeVar, run_sizeOf' hn, hsize, hrun]
        · refine h.write hG he hE hf hB hs (lo := d + off) (hi := d + off + n) hcs (fun _ => ⟨by omega, by omega⟩) (fun _ _ _ h => h) hlim hE' hf ?_ ?_ (defers_put h.defers)
          · intro m y hy
            rcases setUpd_some _ _ _ _ hy with h3 | ⟨h3, h4⟩
            · simp at h3; exact .inl h3
            · simp at h3; exact .inr ⟨h3, h3, h4⟩
          · exact slots_put (VRs.mono hx (fun _ h => h) (fun _ _ _ h => h) _ _ h.slots) o.dst rfl
      · cases e
    · cases e
  · cases e

theorem op_nilCheck (h : SR G st a w ok R lim) {x : Operand} (ho : o.op = .nilCheck x) (e : evalOp P T o g st = some r) : Goes P G o g r st a w lim := by
  have hx := h.ev x
  simp only [evalOp, ho] at e
  split at e
  · rename_i m hm
    cases e
    rw [hm] at hx
    obtain ⟨B, d, hR, hxa⟩ := hx
    exact goes_val h (v := a.eval x) (by simp [execOp, ho, hxa]) ⟨B, d, hR, hxa⟩
  · rename_i m hm
    cases e
    rw [hm] at hx
    obtain ⟨B, o', vs, hxa, h3⟩ := hx
    exact goes_val h (v := a.eval x) (by simp [execOp, ho, hxa]) ⟨B, o', vs, hxa, h3⟩
  · rename_i m hm
    cases e
    rw [hm] at hx
    obtain ⟨vs, hxa, h3⟩ := hx
    exact goes_val h (v := a.eval x) (by simp [execOp, ho, hxa]) ⟨vs, hxa, h3⟩
  · cases e

theorem op_field (h : SR G st a w ok R lim) {s : TypeId} {x : Operand} {f : Nat} (ho : o.op = .field s x f) (e : evalOp P T o g st = some r) : Goes P G o g r st a w lim := by
  have hx := h.ev x
  simp only [evalOp, ho] at e
  split at e
  · rename_i fields hu
    split at e
    · rename_i fd cs hf hm
      split at e
      · rename_i v hv
        cases e
        rw [hm] at hx
        obtain ⟨vs, hxa, hvs⟩ := hx
        have hd := hvs.drop fd.offset
        unfold takeT at hv
        split at hv
        · rename_i n ha hn
          split at hv
          · rename_i hle
            cases hv
            refine goes_val h (v := .agg ((vs.drop fd.offset).take n).toArray) ?_ ⟨_, rfl, hd.take n⟩
            simp [execOp, ho, Instr.field, run_underlying hu, hf, hxa, asAgg, part, run_isAgg' ha, run_sizeOf' hn]
          · cases hv
        · rename_i n ha hn
          split at hv
          · rename_i c cs' hc
            cases hv
            rw [hc] at hd
            obtain ⟨v0, vt, he, h1, h2⟩ := hd
            refine goes_val h (v := v0) ?_ h1
            have : vs[fd.offset]? = some v0 := by
              have := congrArg (·[0]?) he
              simpa using this
            simp [execOp, ho, Instr.field, run_underlying hu, hf, hxa, asAgg, part, run_isAgg' ha, this]
          · cases hv
        · cases hv
      · cases e
    · cases e
  · cases e

theorem intOf?_sound {m : MV} {x : Value} {n : Int} (hv : VR w ok R m x) (e : intOf? m = some n) : ∃ k, x = .int k n := by
  unfold intOf? at e
  split at e
  · rename_i k n'
    cases e
    exact ⟨k, hv⟩
  · cases e

theorem op_indexAddr (h : SR G st a w ok R lim) {t : TypeId} {x i : Operand} (ho : o.op = .indexAddr t x i) (e : evalOp P T o g st = some r) : Goes P G o g r st a w lim := by
  have hx := h.ev x
  simp only [evalOp, ho] at e
  split at e
  · rename_i el n hu hn
    obtain ⟨k, hi⟩ := intOf?_sound (h.ev i) hn
    split at e
    · rename_i sz len cap cs hs hm
      split at e
      · rename_i hh
        obtain ⟨h0, h1, hne⟩ := hh
        cases e
        rw [hm] at hx
        obtain ⟨aa, c, hxa, _, _, hb⟩ := hx
        rcases hb with ⟨_, hb, _⟩ | ⟨b, o', vs, rfl, hb, hc, hvs⟩
        · exact absurd hb hne
        refine goes_val h (v := .pointer (some ⟨b, o' + n.toNat * sz, none⟩)) ?_ ⟨b, _, vs.drop (n.toNat * sz), rfl, hb, ?_, hvs.drop _⟩
        · simp [execOp, ho, Instr.indexAt, hi, asIntOf, run_underlying hu, hxa, h0, h1, run_sizeOf' hs, add_addr]
        · intro j hj
          simp only [List.length_drop] at hj
          rw [List.getElem?_drop, Nat.add_assoc]
          exact hc _ (by omega)
      · cases e
    · rename_i sz nm gen off len cap sz' hs hm
      split at e
      · rename_i hh
        obtain ⟨h0, h1, hsz⟩ := hh
        cases e
        rw [hm] at hx
        obtain ⟨B, d, c, hR, hxa, _⟩ := hx
        refine goes_val h (v := .pointer (some ⟨B, d + (off + n.toNat * sz), none⟩)) ?_ ⟨B, d, hR, rfl⟩
        simp [execOp, ho, Instr.indexAt, hi, asIntOf, run_underlying hu, hxa, h0, h1, run_sizeOf' hs, add_addr, Nat.add_assoc]
      · cases e
    · cases e
  · rename_i len el n hu hn
    obtain ⟨k, hi⟩ := intOf?_sound (h.ev i) hn
    split at e
    · rename_i sz nm gen off hs hm
      split at e
      · rename_i hh
        obtain ⟨h0, h1⟩ := hh
        cases e
        rw [hm] at hx
        obtain ⟨B, d, hR, hxa⟩ := hx
        refine goes_val h (v := .pointer (some ⟨B, d + (off + n.toNat * sz), none⟩)) ?_ ⟨B, d, hR, rfl⟩
        simp [execOp, ho, Instr.indexAt, hi, asIntOf, run_underlying hu, hxa, Instr.sureAddr, h0, h1, run_sizeOf' hs, add_addr, Nat.add_assoc]
      · cases e
    · rename_i sz cs hs hm
      split at e
      · rename_i hh
        obtain ⟨h0, h1⟩ := hh
        cases e
        rw [hm] at hx
        obtain ⟨b, o', vs, hxa, hb, hc, hvs⟩ := hx
        refine goes_val h (v := .pointer (some ⟨b, o' + n.toNat * sz, none⟩)) ?_ ⟨b, _, vs.drop (n.toNat * sz), rfl, hb, ?_, hvs.drop _⟩
        · simp [execOp, ho, Instr.indexAt, hi, asIntOf, run_underlying hu, hxa, Instr.sureAddr, h0, h1, run_sizeOf' hs, add_addr]
        · intro j hj
          simp only [List.length_drop] at hj
          rw [List.getElem?_drop, Nat.add_assoc]
          exact hc _ (by omega)
      · cases e
    · cases e
  · cases e

theorem op_extract (h : SR G st a w ok R lim) {x : Operand} {i : Nat} (ho : o.op = .extract x i) (e : evalOp P T o g st = some r) : Goes P G o g r st a w lim := by
  have hx := h.ev x
  simp only [evalOp, ho] at e
  split at e
  · rename_i vs hm
    split at e
    · rename_i v hv
      cases e
      rw [hm] at hx
      obtain ⟨us, hxa, hus⟩ := hx
      obtain ⟨u, hu, hr⟩ := hus.get i v hv
      exact goes_val h (v := u) (by simp [execOp, ho, Instr.extract, hxa, hu]) hr
    · cases e
  · cases e

theorem ev_list (h : SR G st a w ok R lim) : ∀ (l : List Operand), VRs w ok R (l.map st.ev) (l.map a.eval)
  | [] => VRs.nil
  | x :: l => VRs.cons (h.ev x) (ev_list h l)

theorem op_makeFunc (h : SR G st a w ok R lim) {f : FuncId} {caps : Array Operand} (ho : o.op = .makeFunc (.func f) ⟨[]⟩ caps) (e : evalOp P T o g st = some r) : Goes P G o g r st a w lim := by
  simp only [evalOp, ho] at e
  cases e
  refine goes_val h (v := .func (.func f) #[] (caps.map a.eval)) (by simp [execOp, ho, Instr.makeFunc]) ⟨(caps.toList.map a.eval), ?_, ev_list h _⟩
  congr 1
  apply Array.ext'
  simp

theorem op_pure (h : SR G st a w ok R lim) (hs : ∀ cs b, o.op ≠ .select cs b) (e : (pureOp P o st.ev).map (fun v => ({ val := v } : Res)) = some r) : Goes P G o g r st a w lim := by
  obtain ⟨m, hm, rfl⟩ := Option.map_eq_some_iff.1 e
  obtain ⟨v, hv, hr⟩ := pureOp_sound h hs hm
  exact goes_val h hv hr
end Go.Proofs.YtkeelkeoijemiaaGreat.Ev

namespace Go.Proofs.YtkeelkeoijemiaaGreat.Ev
open Go Go.RowKit

variable {P : Program} {T : Tab} {G : Gh} {st : St} {a : Act} {w : World} {ok : Nat → Prop} {R : Nat → Nat → Option (Nat × Nat)} {lim : Nat → Prop} {o : Oper} {g : Nat} {r : Res}

theorem list_set_fold (off : Nat) : ∀ (us : List Value) (k : Nat) (cs : Array Value), off + k + us.length ≤ cs.size →
    ((us.zipIdx k).foldl (fun cs (c, j) => cs.setIfInBounds (off + j) c) cs).toList = cs.toList.take (off + k) ++ us ++ cs.toList.drop (off + k + us.length)
  | [], k, cs, _ => by simp
  | u :: us, k, cs, h => by
    simp only [List.length_cons] at h
    rw [List.zipIdx_cons, List.foldl_cons, list_set_fold off us (k + 1) _ (by simp; omega)]
    have e := list_seg_step cs.toList (off + k) u us (by simp; omega)
    simp only [Array.toList_setIfInBounds, List.length_cons] at e ⊢
    rw [show off + (k + 1) = off + k + 1 from by omega, show off + k + (us.length + 1) = off + k + 1 + us.length from by omega]
    rw [show off + k + (us.length + 1) = off + k + 1 + us.length from by omega] at e
    exact e

/-- Two lists, place by place. -/
inductive All2 {α β : Type} (p : α → β → Prop) : List α → List β → Prop where
  | nil : All2 p [] []
  | cons {x : α} {y : β} {l : List α} {m : List β} : p x y → All2 p l m → All2 p (x :: l) (y :: m)

theorem fill_sound (place : Nat → Option (Nat × Nat)) : ∀ (ps : List (Nat × MV)) (qs : List (Nat × Value)) (cs cs' : List MV) (ds : Array Value),
    All2 (fun p q => p.1 = q.1 ∧ VR w ok R p.2 q.2) ps qs → VRs w ok R cs ds.toList → fillM place cs ps = some cs' → ∃ ds', Instr.fill place ds qs = some ds' ∧ VRs w ok R cs' ds'.toList
  | [], _, cs, cs', ds, .nil, hv, e => by simp [fillM] at e; subst e; exact ⟨ds, rfl, hv⟩
  | (i, m) :: ps, (_, v) :: qs, cs, cs', ds, .cons ⟨h1, h2⟩ hs, hv, e => by
    cases h1
    simp only [fillM] at e
    split at e
    · cases e
    · rename_i off size hp
      split at e
      · rename_i vs hvs
        split at e
        · cases e
        · rename_i hc
          obtain ⟨hr, _⟩ := cellsOf_sound hvs h2
          have hlen := hr.length
          have hl := hv.length
          simp only [Array.length_toList] at hlen hl
          have hc1 : v.cells.size = size := by omega
          have hc2 : ¬ (off + v.cells.size > ds.size) := by omega
          have hfold : (v.cells.zipIdx.foldl (fun cs (c, j) => cs.setIfInBounds (off + j) c) ds).toList = ds.toList.take off ++ v.cells.toList ++ ds.toList.drop (off + v.cells.toList.length) := by
            have := list_set_fold off v.cells.toList 0 ds (by simp; omega)
            rw [← Array.foldl_toList, Array.toList_zipIdx]
            simpa using this
          have hnew : VRs w ok R (putCells cs off vs) (v.cells.zipIdx.foldl (fun cs (c, j) => cs.setIfInBounds (off + j) c) ds).toList := by
            rw [hfold]; exact hv.put hr off
          obtain ⟨ds', h3, h4⟩ := fill_sound place ps qs _ cs' _ hs hnew e
          refine ⟨ds', ?_, h4⟩
          simp only [Instr.fill, hp]
          rw [if_neg (by simp [hc1]; omega)]
          exact h3
      · cases e

theorem parts_ev (h : SR G st a w ok R lim) : ∀ (l : List (Nat × Operand)), All2 (fun (p : Nat × MV) (q : Nat × Value) => p.1 = q.1 ∧ VR w ok R p.2 q.2) (l.map fun p => (p.1, st.ev p.2)) (l.map fun p => (p.1, a.eval p.2))
  | [] => .nil
  | p :: l => .cons ⟨rfl, h.ev p.2⟩ (parts_ev h l)

theorem placesO_run {fields : List Field} : ∀ {pl : List (Nat × Nat)}, placesO P fields = some pl → ∀ w, (fields.mapM (m := Sem) fun f => do pure (f.offset, ← sizeOf f.type)).run P w = .ok pl w := by
  induction fields with
  | nil => intro pl e w; simp [placesO] at e; subst e; simp
  | cons f fs ih =>
    intro pl e w
    simp only [placesO, List.mapM_cons, Option.bind_eq_bind, Option.pure_def] at e
    obtain ⟨x, hx, e⟩ := Option.bind_eq_some_iff.1 e
    obtain ⟨y, hy, e⟩ := Option.bind_eq_some_iff.1 e
    cases e
    obtain ⟨n, hn, rfl⟩ := Option.map_eq_some_iff.1 hx
    have h2 := ih (pl := y) hy w
    simp only [List.mapM_cons, Sem.run_bind, run_sizeOf' hn, Result.andThen_ok, Sem.run_pure, h2]

theorem op_build (h : SR G st a w ok R lim) {t : TypeId} {parts : Array (Nat × Operand)} (ho : o.op = .build t parts) (e : evalOp P T o g st = some r) : Goes P G o g r st a w lim := by
  have hp := parts_ev h parts.toList
  have hpe : (parts.map fun (i, x) => (i, a.eval x)).toList = parts.toList.map fun p => (p.1, a.eval p.2) := by simp
  simp only [evalOp, ho] at e
  split at e
  · rename_i fields z hu hz
    obtain ⟨v, hv, hzv⟩ := run_zero' hz w
    split at e
    · rename_i pl hpl
      obtain ⟨cs, hcs, rfl⟩ := Option.map_eq_some_iff.1 e
      obtain ⟨ds', h1, h2⟩ := fill_sound (pl[·]?) _ _ _ cs v.cells hp (by rw [hzv]; exact VRs_cv1 z) hcs
      refine goes_val h (v := .agg ds') ?_ ⟨ds'.toList, rfl, h2⟩
      have hpr := placesO_run hpl w
      have hpr' : (fields.mapM (m := Sem) fun f => do pure (f.offset, ← sizeOf f.type)).run P w = .ok pl.toArray w := by
        have := Array.mapM_eq_mapM_toList (m := Sem) (f := fun f : Field => do pure (f.offset, ← sizeOf f.type)) (xs := fields)
        rw [this]
        simp only [Sem.run_map, hpr, Result.andThen_ok]
      have hf : Instr.fill (fun x => pl.toArray[x]?) v.cells (parts.map fun (i, x) => (i, a.eval x)).toList = some ds' := by
        rw [hpe]; simpa using h1
      simp only [execOp, ho, Instr.build, Sem.run_bind, hv, Result.andThen_ok, run_underlying hu, hpr', hf]
      rfl
    · cases e
  · rename_i len el z hu hz
    obtain ⟨v, hv, hzv⟩ := run_zero' hz w
    split at e
    · rename_i sz hs
      obtain ⟨cs, hcs, rfl⟩ := Option.map_eq_some_iff.1 e
      obtain ⟨ds', h1, h2⟩ := fill_sound (fun i => some (i * sz, sz)) _ _ _ cs v.cells hp (by rw [hzv]; exact VRs_cv1 z) hcs
      refine goes_val h (v := .agg ds') ?_ ⟨ds'.toList, rfl, h2⟩
      have hf : Instr.fill (fun i => some (i * sz, sz)) v.cells (parts.map fun (i, x) => (i, a.eval x)).toList = some ds' := by rw [hpe]; exact h1
      simp only [execOp, ho, Instr.build, Sem.run_bind, hv, Result.andThen_ok, run_underlying hu, run_sizeOf' hs, hf]
      rfl
    · cases e
  · cases e

theorem sliceO_sound {t e : TypeId} (h : sliceO P t = some e) : P.underlying t = some (.slice e) := by
  unfold sliceO at h
  split at h
  · rename_i e' hu; cases h; exact hu
  · cases h

theorem op_buildSlice (h : SR G st a w ok R lim) (hg : g ≠ 0) (hR : ∀ n, R n g = none) {t : TypeId} {len : Nat} {parts : Array (Nat × Operand)} (ho : o.op = .buildSlice t len parts) (e : evalOp P T o g st = some r) :
    Goes P G o g r st a w lim := by
  have hp := parts_ev h parts.toList
  have hpe : (parts.map fun (i, x) => (i, a.eval x)).toList = parts.toList.map fun p => (p.1, a.eval p.2) := by simp
  simp only [evalOp, ho] at e
  split at e
  · rename_i el d hu hd
    have hu := sliceO_sound hu
    split at e
    · rename_i sz z hs hz
      split at e
      · rename_i hh
        obtain ⟨hzl, hle, hsz⟩ := hh
        obtain ⟨cs, hcs, rfl⟩ := Option.map_eq_some_iff.1 e
        obtain ⟨v, hv, hzv⟩ := run_zero' hz w
        have hzs : v.cells.size = sz := by rw [← hzl, ← hzv]; simp
        have hz0 : v.cells.toList ≠ [] := by intro h0; rw [hzv] at h0; subst h0; simp at hzl; omega
        have hzero : ∃ zero : Array Value, (if len * sz = 0 then (pure #[] : Sem (Array Value)) else do pure (← zeroValue el).cells).run P w = .ok zero w ∧ (len * sz ≠ 0 → zero = v.cells) := by
          by_cases h0 : len * sz = 0
          · exact ⟨#[], by rw [if_pos h0]; rfl, fun hn => absurd h0 hn⟩
          · exact ⟨v.cells, by rw [if_neg h0]; simp [hv], fun _ => rfl⟩
        obtain ⟨zero, hzr, hze⟩ := hzero
        have hini : ((Array.range (len * sz)).map (zero[· % zero.size]!)).toList = (List.replicate len v.cells.toList).flatten := by
          by_cases h0 : len * sz = 0
          · have : len = 0 := by
              rcases Nat.eq_zero_or_pos len with h | h
              · exact h
              · have := Nat.mul_pos h hsz; omega
            simp [this]
          · rw [hze h0]
            apply List.ext_getElem?
            intro i
            by_cases hi : i < len * sz
            · have := range_zero v.cells hz0 (len * sz) len i (by rw [hzs]; exact hi) hi
              rw [← this, Array.getElem?_toList]
            · rw [List.getElem?_eq_none (by simp; omega), List.getElem?_eq_none (by rw [flatten_replicate_len]; simp [hzs]; omega)]
        have hv0 : VRs w ok R (repCells (z.map cv1) len) ((Array.range (len * sz)).map (zero[· % zero.size]!)).toList := by
          rw [hini, ← hzv]; exact repCells_sound len _
        obtain ⟨ds', h1, h2⟩ := fill_sound (fun i => some (i * sz, sz)) _ _ _ cs _ hp hv0 hcs
        have hdl : ds'.size = len * sz := by
          have := fillM_len (fun i => some (i * sz, sz)) _ _ _ hcs
          have h3 := h2.length
          simp only [Array.length_toList] at h3
          rw [h3, this, repCells_len]; simp [hzl]
        refine ⟨_, w.alloc (.cells ds' el), .slice (some ⟨w.heap.size, 0, none⟩) len len, ?_, .inl rfl, ok, addR R d g (w.heap.size, 0), ?_⟩
        · have hf : Instr.fill (fun i => some (i * sz, sz)) ((Array.range (len * sz)).map (zero[· % zero.size]!)) (parts.map fun (i, x) => (i, a.eval x)).toList = some ds' := by rw [hpe]; exact h1
          have hn : ¬ (len * sz > 2 ^ 24) := by omega
          by_cases h0 : len * sz = 0
          · have hz1 : zero = #[] := by rw [if_pos h0] at hzr; simpa using hzr.symm
            rw [hz1] at hf
            simp only [execOp, ho, Instr.buildSlice, Sem.run_bind, run_underlying hu, Result.andThen_ok, run_sizeOf' hs, if_neg hn, Sem.run_ite, if_pos h0, hf, Sem.run_pure]
            simp [newRow]
          · rw [hze h0] at hf
            simp only [execOp, ho, Instr.buildSlice, Sem.run_bind, run_underlying hu, Result.andThen_ok, run_sizeOf' hs, if_neg hn, Sem.run_ite, if_neg h0, hv, hf, Sem.run_pure]
            simp [newRow]
        · have := h.new (m := .row d g 0 len (some len) sz) (v := .slice (some ⟨w.heap.size, 0, none⟩) len len) o.dst hg (hR d) ds' el h2 (fun i _ => by simp) [] (by simp) []
            ⟨w.heap.size, 0, len, addR_self, rfl, Nat.le_refl _, fun k hk => by cases hk; rfl, fun _ => ⟨ds', el, (0, 0), heap_alloc_self _ _, by omega⟩⟩
          simpa using this
      · cases e
    · cases e
  · cases e
  where
  fillM_len (place : Nat → Option (Nat × Nat)) : ∀ (ps : List (Nat × MV)) (cs cs' : List MV), fillM place cs ps = some cs' → cs'.length = cs.length
    | [], cs, cs', e => by simp [fillM] at e; rw [e]
    | (i, m) :: ps, cs, cs', e => by
      simp only [fillM] at e
      split at e
      · cases e
      · split at e
        · split at e
          · cases e
          · rename_i hc
            rw [fillM_len place ps _ cs' e]
            simp only [putCells, List.length_append, List.length_take, List.length_drop]; omega
        · cases e
  repCells_len (zs : List MV) : ∀ n, (repCells zs n).length = n * zs.length
    | 0 => by simp [repCells]
    | n + 1 => by simp only [repCells, List.length_append, repCells_len zs n, Nat.add_mul]; omega

theorem op_makeSlice (h : SR G st a w ok R lim) (hg : g ≠ 0) (hR : ∀ n, R n g = none) {t : TypeId} {l c : Operand} (ho : o.op = .makeSlice t l c) (e : evalOp P T o g st = some r) :
    Goes P G o g r st a w lim := by
  simp only [evalOp, ho] at e
  split at e
  · rename_i el d ln cn hu hd hl hc
    have hu := sliceO_sound hu
    obtain ⟨k1, hl⟩ := intOf?_sound (h.ev l) hl
    obtain ⟨k2, hc⟩ := intOf?_sound (h.ev c) hc
    split at e
    · rename_i sz z by_ hs hz hb
      split at e
      · rename_i hh
        obtain ⟨hzl, hsz, h0, h1, h2, h3⟩ := hh
        cases e
        obtain ⟨v, hv, hzv⟩ := run_zero' hz w
        obtain ⟨i, hi, rfl⟩ := run_bytes' hb
        have hzs : v.cells.size = sz := by rw [← hzl, ← hzv]; simp
        have hz0 : v.cells.toList ≠ [] := by intro h0; rw [hzv] at h0; subst h0; simp at hzl; omega
        have wl : IntKind.i64.wrap ln = ln := IntWalk.i64_in _ (by omega)
        have wc : IntKind.i64.wrap cn = cn := IntWalk.i64_in _ (by omega)
        have hzero : ∃ zero : Array Value, (if cn.toNat * sz = 0 then (pure #[] : Sem (Array Value)) else do pure (← zeroValue el).cells).run P w = .ok zero w ∧ (cn.toNat * sz ≠ 0 → zero = v.cells) := by
          by_cases h0 : cn.toNat * sz = 0
          · exact ⟨#[], by rw [if_pos h0]; rfl, fun hn => absurd h0 hn⟩
          · exact ⟨v.cells, by rw [if_neg h0]; simp [hv], fun _ => rfl⟩
        obtain ⟨zero, hzr, hze⟩ := hzero
        have hini : ∀ i, i < (List.replicate ln.toNat v.cells.toList).flatten.length → ((Array.range (cn.toNat * sz)).map (zero[· % zero.size]!))[i]? = (List.replicate ln.toNat v.cells.toList).flatten[i]? := by
          intro i hi
          rw [flatten_replicate_len] at hi
          simp only [Array.length_toList] at hi
          have hle : ln.toNat * sz ≤ cn.toNat * sz := Nat.mul_le_mul_right _ (by omega)
          rw [hzs] at hi
          have h0 : cn.toNat * sz ≠ 0 := by omega
          rw [hze h0]
          exact range_zero v.cells hz0 (cn.toNat * sz) ln.toNat i (by rw [hzs]; exact hi) (by omega)
        refine ⟨_, w.alloc (.cells ((Array.range (cn.toNat * sz)).map (zero[· % zero.size]!)) el), .slice (some ⟨w.heap.size, 0, none⟩) ln.toNat cn.toNat, ?_, .inl rfl, ok, addR R d g (w.heap.size, 0), ?_⟩
        · have t1 : ¬ (cn < 0) := by omega
          simp [execOp, ho, Instr.makeSlice, run_underlying hu, hl, hc, asInt, asIntOf, typeInfo, hi, wl, wc, t1]
          have t3 : ¬ ((281474976710656 < (i.bytes : Int) * cn ∨ ln < 0) ∨ cn < ln) := by omega
          rw [if_neg t3]
          by_cases h0 : cn.toNat * sz = 0
          · have hz1 : zero = #[] := by rw [if_pos h0] at hzr; simpa using hzr.symm
            subst hz1
            simp only [run_sizeOf' hs, Result.andThen_ok, if_pos h0, newRow, Sem.run_bind, run_newObj, Sem.run_pure]
            simp [h0]
          · rw [hze h0]
            simp only [run_sizeOf' hs, Result.andThen_ok, if_neg h0, hv, newRow, Sem.run_bind, run_newObj, Sem.run_pure]
            rfl
        · have := h.new (m := .row d g 0 ln.toNat (some cn.toNat) sz) (v := .slice (some ⟨w.heap.size, 0, none⟩) ln.toNat cn.toNat) o.dst hg (hR d) ((Array.range (cn.toNat * sz)).map (zero[· % zero.size]!)) el
            (cells := repCells (z.map cv1) ln.toNat) (by have := repCells_sound (w := w) (ok := ok) (R := R) ln.toNat v.cells.toList; rwa [hzv] at this ⊢) hini [] (by simp) []
            ⟨w.heap.size, 0, cn.toNat, addR_self, rfl, by omega, fun k hk => by cases hk; rfl, fun _ => ⟨_, el, (0, 0), heap_alloc_self _ _, by simp⟩⟩
          simpa using this
      · cases e
    · cases e
  · cases e

theorem bound_sound {x : Option Operand} {len d n : Nat} (h : SR G st a w ok R lim) (e : bound len (x.map st.ev) d = some n) :
    match x with
    | none => n = d
    | some y => ∃ k i, a.eval y = .int k i ∧ 0 ≤ i ∧ i ≤ len ∧ n = i.toNat := by
  cases x with
  | none => simp [bound] at e; exact e.symm
  | some y =>
    simp only [bound, Option.map_some] at e
    split at e
    · rename_i i hi
      obtain ⟨k, hk⟩ := intOf?_sound (h.ev y) hi
      split at e
      · rename_i hh; cases e; exact ⟨k, i, hk, hh.1, hh.2, rfl⟩
      · cases e
    · cases e

theorem run_sliceBound {x : Value} {k : IntKind} {i : Int} {y : Nat} {code : BoundsCode} (hx : x = .int k i) (h0 : 0 ≤ i) (h1 : i ≤ y) (w : World) : (Instr.sliceBound x y code).run P w = .ok i.toNat w := by
  subst hx
  simp [Instr.sliceBound, asIntOf, h0, h1]

/-- The bounds of a slice expression: what the evaluator tells holds of the machine, whatever the capacity is. -/
theorem bounds_sound (h : SR G st a w ok R lim) {len c : Nat} {cap : Option Nat} (hl : len ≤ c) (hc : ∀ k, cap = some k → c = k) {lo hi mx : Option Operand} {hN lN : Nat} {mN : Option Nat}
    (eh : bound len (hi.map st.ev) len = some hN) (el : bound hN (lo.map st.ev) 0 = some lN)
    (em : maxB len cap (mx.map st.ev) = some mN)
    (hm : ∀ k, mN = some k → hN ≤ k) (hnm : mx ≠ none → hi ≠ none) :
    ∃ m, (Instr.sliceBounds true len c (lo.map a.eval) (hi.map a.eval) (mx.map a.eval)).run P w = .ok (lN, hN, m) w ∧ lN ≤ hN ∧ hN ≤ m ∧ m ≤ c ∧ hN ≤ len ∧ (∀ k, mN = some k → m = k) ∧ (mN = none → m = c) := by
  have bh := bound_sound h eh
  have bl := bound_sound h el
  have hlo : ∀ code, (match lo.map a.eval with | some v => Instr.sliceBound v hN code | none => pure 0 : Sem Nat).run P w = .ok lN w ∧ lN ≤ hN := by
    intro code
    cases lo with
    | none => simp at bl; subst bl; exact ⟨rfl, Nat.zero_le _⟩
    | some y => obtain ⟨k, i, h1, h2, h3, h4⟩ := bl; subst h4; exact ⟨run_sliceBound h1 h2 h3 w, by omega⟩
  cases mx with
  | none =>
    simp only [maxB, Option.map_none, Option.some.injEq] at em; subst em
    have hhi : ∀ code, (match hi.map a.eval with | some v => Instr.sliceBound v c code | none => pure len : Sem Nat).run P w = .ok hN w ∧ hN ≤ len := by
      intro code
      cases hi with
      | none => simp at bh; subst bh; exact ⟨rfl, Nat.le_refl _⟩
      | some y => obtain ⟨k, i, h1, h2, h3, h4⟩ := bh; subst h4; exact ⟨run_sliceBound h1 h2 (by omega) w, by omega⟩
    refine ⟨c, ?_, (hlo .sliceB).2, by have := (hhi .sliceAcap).2; omega, Nat.le_refl _, (hhi .sliceAcap).2, (fun k hk => by cases hk), fun _ => rfl⟩
    have h1 := (hhi .sliceAcap).1
    have h2 := (hlo .sliceB).1
    cases hi <;> cases lo <;> simp_all [Instr.sliceBounds]
  | some y =>
    cases hi with
    | none => exact absurd rfl (hnm (by simp))
    | some z =>
      have hmx : ∃ k i, a.eval y = .int k i ∧ 0 ≤ i ∧ i ≤ c ∧ mN = some i.toNat := by
        simp only [maxB, Option.map_some, Option.map_eq_some_iff] at em
        obtain ⟨q, hq, rfl⟩ := em
        have := bound_sound (x := some y) h hq
        obtain ⟨k, i, h1, h2, h3, rfl⟩ := this
        refine ⟨k, i, h1, h2, ?_, rfl⟩
        cases cap with
        | some cc => have := hc cc rfl; simp at h3; omega
        | none => simp at h3; omega
      obtain ⟨k, i, h1, h2, h3, rfl⟩ := hmx
      obtain ⟨k', i', h1', h2', h3', rfl⟩ := bh
      have hle := hm _ rfl
      refine ⟨i.toNat, ?_, (hlo .slice3C).2, hle, by omega, by omega, (fun k hk => by cases hk; rfl), fun hn => by cases hn⟩
      have e1 := run_sliceBound (P := P) (code := .slice3Acap) h1 h2 h3 w
      have e2 := run_sliceBound (P := P) (y := i.toNat) (code := .slice3B) h1' h2' (by omega) w
      have e3 := (hlo .slice3C).1
      cases lo <;> simp_all [Instr.sliceBounds]
end Go.Proofs.YtkeelkeoijemiaaGreat.Ev

