/- One operation: what the evaluator tells is what the machine does. -/
import Derived.Test.YtkeelkeoijemiaaEvD
import Derived.Laws.StructEq
import Derived.Laws.Entries
namespace Go.Proofs.Ytkeelkeoijemiaa.Ev
open Go Go.RowKit

variable {P : Program} {T : Tab} {G : Gh} {st : St} {a : Act} {w : World} {ok : Nat → Prop} {R : Nat → Nat → Option (Nat × Nat)} {lim : Nat → Prop} {o : Oper} {g : Nat} {r : Res}

/-- The operation goes, and keeps the invariant. -/
def Goes (P : Program) (G : Gh) (o : Oper) (g : Nat) (r : Res) (st : St) (a : Act) (w : World) (lim : Nat → Prop) : Prop :=
  ∃ n w' v, (execOp a.eval o).run P w = .ok n w' ∧ (n = .value v ∨ (n = .skip ∧ v = undef)) ∧ ∃ ok' R', SR G (st.put o.dst r) (a.put o.dst v) w' ok' R' (fun x => lim x ∨ x = g)

theorem SR.weaken {lim' : Nat → Prop} (h : SR G st a w ok R lim) (hl : ∀ x, lim x → lim' x) : SR G st a w ok R lim' := { h with fresh := fun n g hn => hl _ (h.fresh n g hn) }

theorem Goes.wp {K : Act → World → Prop} {Q : Exit → Act → World → Prop} (h : Goes P G o g r st a w lim)
    (hK : ∀ v w' ok' R', SR G (st.put o.dst r) (a.put o.dst v) w' ok' R' (fun x => lim x ∨ x = g) → K (a.put o.dst v) w') : o.wp P a w K Q := by
  obtain ⟨n, w', v, hr, hn, ok', R', hs⟩ := h
  unfold Oper.wp
  rw [hr]
  rcases hn with rfl | ⟨rfl, rfl⟩
  · exact hK v w' ok' R' hs
  · exact hK undef w' ok' R' hs

/-- A value, the world as it was. -/
theorem goes_val (h : SR G st a w ok R lim) {m : MV} {v : Value} {rd : List Nat} (hr : (execOp a.eval o).run P w = .ok (.value v) w) (hv : VR w ok R m v) : Goes P G o g { val := m, rd := rd } st a w lim :=
  ⟨_, w, v, hr, .inl rfl, ok, R, (h.val o.dst hv rd).weaken fun _ h => .inl h⟩

theorem run_isAgg' {t : TypeId} {b : Bool} (h : aggO P t = some b) (w : World) : (isAgg t).run P w = .ok b w := by
  unfold aggO at h
  cases hu : P.underlying t with
  | none => rw [hu] at h; cases h
  | some d =>
    rw [hu] at h
    cases d <;> simp_all [isAgg, run_underlying hu]
theorem run_sizeOf' {t : TypeId} {n : Nat} (h : szO P t = some n) (w : World) : (sizeOf t).run P w = .ok n w := by
  unfold szO at h
  obtain ⟨i, hi, rfl⟩ := Option.map_eq_some_iff.1 h
  simp [sizeOf, typeInfo, hi]
theorem run_zero' {t : TypeId} {z : List Value} (h : zeroO P t = some z) (w : World) : ∃ v, (zeroValue t).run P w = .ok v w ∧ v.cells.toList = z := by
  unfold zeroO at h
  obtain ⟨v, hv, rfl⟩ := Option.map_eq_some_iff.1 h
  obtain ⟨i, hi, hz⟩ := Option.bind_eq_some_iff.1 hv
  exact ⟨v, by simp [zeroValue, typeInfo, hi, hz], rfl⟩
theorem run_bytes' {t : TypeId} {n : Nat} (h : bytesO P t = some n) : ∃ i, P.info? t = some i ∧ i.bytes = n := by
  unfold bytesO at h
  exact Option.map_eq_some_iff.1 h

theorem eqFs_sound {d : Nat} {xs ys : Array Value} (ih : ∀ t x y r, eqT P d t x y = some r → ∀ w, (Op.equalIn d t x y).run P w = .ok r w) : ∀ (fs : List Field) (r : Bool), eqFs P (eqT P d) xs ys fs = some r → ∀ w, (Op.eqFields d xs ys fs).run P w = .ok r w
  | [], r, e, w => by simp only [eqFs, Option.some.injEq] at e; subst e; rfl
  | f :: fs, r, e, w => by
    simp only [eqFs] at e
    split at e
    · cases e
    · rename_i hn
      have hn' : f.name ≠ "_" := by simpa using hn
      split at e
      · rename_i a b h1 h2
        split at e
        · rename_i p q h3 h4
          cases e
          simp only [Op.eqFields, if_pos hn', Sem.run_bind, pureRun_sound _ _ h1 w, pureRun_sound _ _ h2 w, ih _ _ _ _ h3 w, Result.andThen_ok]
          cases p with
          | false => simp
          | true => simpa using eqFs_sound ih fs q h4 w
        · cases e
      · cases e
theorem eqT_sound : ∀ (d : Nat) (t : TypeId) (x y : Value) (r : Bool), eqT P d t x y = some r → ∀ w, (Op.equalIn d t x y).run P w = .ok r w
  | 0, _, _, _, _, e, _ => by simp [eqT] at e
  | d + 1, t, x, y, r, e, w => by
    simp only [eqT] at e
    split at e
    · rename_i a b hu
      cases e
      exact run_equalIn_bool' w d t a b hu
    · rename_i k0 k a k' b hu
      split at e
      · rename_i hk
        subst hk
        cases e
        exact run_equalIn_int w d t k k0 a b hu
      · cases e
    · rename_i fs xs ys hu
      split at e
      · cases e
      · rename_i hs
        have hf : P.fieldsOf t = fs := by simp [Program.fieldsOf, hu]
        rw [run_equalIn_struct w d t xs ys (by rw [hf]; exact hu) (by simpa using hs), hf]
        exact eqFs_sound (eqT_sound d) fs.toList r e w
    · cases e
theorem eqOp_sound {ev : Operand → MV} {ρ : Operand → Value} {v : Value} (hρ : ∀ x v, toVal (ev x) = some v → ρ x = v) (e : eqOp P o ev = some v) (w : World) : (execOp ρ o).run P w = .ok (.value v) w := by
  unfold eqOp at e
  split at e
  · rename_i t x y p ho
    split at e
    · rename_i a b h1 h2
      split at e
      · rename_i hg
        obtain ⟨r, hr, rfl⟩ := Option.map_eq_some_iff.1 e
        simp only [execOp, ho, hρ x _ h1, hρ y _ h2, Sem.run_bind, run_eqGuard_agg w _ t x y a b hg, Result.andThen_ok, run_eql_struct, eqT_sound 10000 t _ _ r hr w, Sem.run_pure]
      · cases e
    · cases e
  · rename_i t x y p ho
    split at e
    · rename_i a b h1 h2
      split at e
      · rename_i hg
        obtain ⟨r, hr, rfl⟩ := Option.map_eq_some_iff.1 e
        simp only [execOp, ho, hρ x _ h1, hρ y _ h2, Sem.run_bind, run_eqGuard_agg w _ t x y a b hg, Result.andThen_ok, run_neq_struct, eqT_sound 10000 t _ _ r hr w, Sem.run_pure]
      · cases e
    · cases e
  · cases e

theorem pureOp_sound (h : SR G st a w ok R lim) (hs : ∀ cs b, o.op ≠ .select cs b) {m : MV} (e : pureOp P o st.ev = some m) : ∃ v, (execOp a.eval o).run P w = .ok (.value v) w ∧ VR w ok R m v := by
  unfold pureOp at e
  split at e
  · rename_i hall
    have hc : execOp (fun x => (toVal (st.ev x)).getD undef) o = execOp a.eval o := by
      refine execOp_congr o hs fun x hx => ?_
      have h1 := List.all_eq_true.1 hall x (by simpa using hx)
      obtain ⟨v, hv⟩ := Option.isSome_iff_exists.1 h1
      rw [hv]; exact (toVal_sound _ _ _ (h.ev x) hv).symm
    split at e
    · rename_i v hv
      cases e
      exact ⟨v, eqOp_sound (fun x v hx => toVal_sound _ _ _ (h.ev x) hx) hv w, rfl⟩
    · split at e
      · rename_i v hv
        cases e
        rw [hc] at hv
        exact ⟨v, pureRun_sound _ _ hv w, rfl⟩
      · cases e
  · cases e

/-- The cells behind a pointer. -/
theorem behind_sound (h : SR G st a w ok R lim) {m : MV} {x : Value} {cs : List MV} (e : behind st.ent m = some cs) (hv : VR w ok R m x) :
    ∃ B o vs, x = .pointer (some ⟨B, o, none⟩) ∧ CellsAt w B o vs ∧ VRs w ok R cs vs := by
  cases m with
  | cp c =>
    simp only [behind, Option.some.injEq] at e; subst e
    obtain ⟨b, o, vs, hx, _, hc, hvs⟩ := hv
    exact ⟨b, o, vs, hx, hc, VRs.mono (Ext.refl _ _) (fun _ h => h) (fun _ _ _ h => by cases h) _ _ hvs⟩
  | ptr nm g off =>
    simp only [behind] at e
    split at e
    · rename_i en he
      split at e
      · rename_i hg
        cases e
        obtain ⟨B, d, hR, hx⟩ := hv
        obtain ⟨B', d', hE⟩ := h.ents nm en he
        have := Option.some.inj ((hg ▸ hR).symm.trans hE.at_); cases this
        obtain ⟨c, el, vs, h1, h2, h3, _⟩ := hE.body
        refine ⟨B, d + off, vs.drop off, hx, ?_, h2.drop off⟩
        intro i hi
        simp only [List.length_drop] at hi
        simp only [World.cell?, h1, List.getElem?_drop, Nat.add_assoc]
        exact h3 (off + i) (by omega)
      · cases e
    · cases e
  | _ => simp [behind] at e

theorem takeT_sound {t : TypeId} {cs : List MV} {v : MV} (e : takeT P t cs = some v) {B o : Nat} {vs : List Value} (hc : CellsAt w B o vs) (hv : VRs w ok R cs vs) :
    ∃ x, (loadVar t ⟨B, o, none⟩).run P w = .ok x w ∧ VR w ok R v x := by
  unfold takeT at e
  split at e
  · rename_i n ha hn
    split at e
    · rename_i hle
      cases e
      have hl := hv.length
      have h1 := run_loadCells_list (P := P) w ⟨B, o, none⟩ (vs.take n) fun j x hx => by
        have hj : j < (vs.take n).length := by
          rcases Nat.lt_or_ge j (vs.take n).length with h | h
          · exact h
          · rw [List.getElem?_eq_none h] at hx; cases hx
        simp only [List.length_take] at hj
        rw [List.getElem?_take_of_lt (by omega)] at hx
        have := hc j (by omega)
        have hadd : (⟨B, o, none⟩ : Addr).add j = ⟨B, o + j, none⟩ := by unfold Addr.add; split <;> simp_all
        rw [hadd, this, hx]
      have hlen : (vs.take n).length = n := by simp; omega
      rw [hlen] at h1
      refine ⟨.agg (vs.take n).toArray, ?_, ⟨_, rfl, hv.take n⟩⟩
      simp [loadVar, run_isAgg' ha, run_sizeOf' hn, h1]
    · cases e
  · rename_i n ha hn
    split at e
    · rename_i c cs'
      cases e
      obtain ⟨v0, vt, rfl, h1, h2⟩ := hv
      have := hc 0 (by simp)
      simp at this
      exact ⟨v0, by simp [loadVar, run_isAgg' ha, this], h1⟩
    · cases e
  · cases e

theorem cellOk_sound {m : MV} {x : Value} (hv : VR w ok R m x) (h : cellOk m = true) : x.oneCell' = true := by
  cases m with
  | sc v => obtain rfl : x = v := hv; cases x <;> first | rfl | simp [cellOk] at h
  | agg _ => simp [cellOk] at h
  | tup _ => simp [cellOk] at h
  | any => simp [cellOk] at h
  | fs _ _ _ => obtain ⟨_, _, rfl, _⟩ := hv; rfl
  | cp _ => obtain ⟨_, _, _, rfl, _⟩ := hv; rfl
  | row _ _ _ _ _ _ => obtain ⟨_, _, _, _, rfl, _⟩ := hv; rfl
  | ptr _ _ _ => obtain ⟨_, _, _, rfl⟩ := hv; rfl
  | fn _ _ => obtain ⟨_, rfl, _⟩ := hv; rfl
theorem oneCell_cells {x : Value} (h : x.oneCell' = true) : x.cells = #[x] := by cases x <;> first | rfl | simp [Value.oneCell'] at h
theorem cellsOk_sound : ∀ {cs : List MV} {vs : List Value}, VRs w ok R cs vs → cs.all cellOk = true → ∀ v ∈ vs, v.oneCell' = true
  | [], _, h, _, v, hv => by cases h; cases hv
  | c :: cs, _, ⟨v0, vt, e, h1, h2⟩, ha, v, hv => by
    subst e
    simp only [List.all_cons, Bool.and_eq_true] at ha
    rcases List.mem_cons.1 hv with rfl | hv
    · exact cellOk_sound h1 ha.1
    · exact cellsOk_sound h2 ha.2 v hv
theorem cellsOf_sound {m : MV} {x : Value} {cs : List MV} (e : cellsOf m = some cs) (hv : VR w ok R m x) : VRs w ok R cs x.cells.toList ∧ ∀ v ∈ x.cells.toList, v.oneCell' = true := by
  have other : ∀ m, cellOk m = true → VR w ok R m x → VRs w ok R [m] x.cells.toList ∧ ∀ v ∈ x.cells.toList, v.oneCell' = true := by
    intro m hm hv
    have h1 := cellOk_sound hv hm
    rw [oneCell_cells h1]
    exact ⟨VRs.cons hv VRs.nil, by simpa using h1⟩
  cases m with
  | agg c =>
    simp only [cellsOf] at e
    split at e
    · rename_i ha
      cases e
      obtain ⟨vs, rfl, h1⟩ := hv
      exact ⟨h1, cellsOk_sound h1 ha⟩
    · cases e
  | _ =>
    simp only [cellsOf] at e
    split at e
    · rename_i hm; cases e; exact other _ hm hv
    · cases e

theorem VRs.put {cs : List MV} {vs : List Value} (h : VRs w ok R cs vs) {ns : List MV} {us : List Value} (k : VRs w ok R ns us) (off : Nat) : VRs w ok R (putCells cs off ns) (vs.take off ++ us ++ vs.drop (off + us.length)) := by
  unfold putCells
  rw [k.length]
  exact ((h.take off).append k).append (h.drop _)

theorem add_addr (B o i : Nat) : (⟨B, o, none⟩ : Addr).add i = ⟨B, o + i, none⟩ := by
  unfold Addr.add
  split
  · rename_i h; subst h; rfl
  · rfl

theorem repCells_sound : ∀ (n : Nat) (zs : List Value), VRs w ok R (repCells (zs.map cv1) n) (List.replicate n zs).flatten
  | 0, _ => VRs.nil
  | n + 1, zs => by
    rw [List.replicate_succ, List.flatten_cons]
    exact (VRs_cv1 zs).append (repCells_sound n zs)
theorem flatten_replicate_get (zs : List Value) (hz : zs ≠ []) : ∀ (n i : Nat), i < n * zs.length → (List.replicate n zs).flatten[i]? = zs[i % zs.length]?
  | 0, i, h => by simp at h
  | n + 1, i, h => by
    rw [List.replicate_succ, List.flatten_cons]
    have hpos : 0 < zs.length := List.length_pos_iff.2 hz
    by_cases hi : i < zs.length
    · rw [List.getElem?_append_left hi, Nat.mod_eq_of_lt hi]
    · have h2 : i - zs.length < n * zs.length := by rw [Nat.add_mul, Nat.one_mul] at h; omega
      rw [List.getElem?_append_right (by omega), flatten_replicate_get zs hz n _ h2]
      have h3 := Nat.mod_eq_sub_mod (a := i) (b := zs.length) (by omega)
      rw [h3]
theorem flatten_replicate_len (zs : List Value) (n : Nat) : (List.replicate n zs).flatten.length = n * zs.length := by simp

/-- Zero cells, as the model lays them. -/
theorem range_zero (zs : Array Value) (hz : zs.toList ≠ []) (n m i : Nat) (hi : i < m * zs.size) (hm : i < n) :
    ((Array.range n).map (zs[· % zs.size]!))[i]? = (List.replicate m zs.toList).flatten[i]? := by
  have hs : zs.toList.length = zs.size := by simp
  have hp : 0 < zs.size := by
    rcases Nat.eq_zero_or_pos zs.size with h | h
    · exact absurd (by simpa using h) hz
    · exact h
  rw [flatten_replicate_get zs.toList hz m i (by rw [hs]; exact hi), hs]
  have hl : i % zs.size < zs.size := Nat.mod_lt _ hp
  simp [hm, hl, getElem!_pos]

theorem op_fieldAddr (h : SR G st a w ok R lim) {s : TypeId} {x : Operand} {f : Nat} (ho : o.op = .fieldAddr s x f) (e : evalOp P T o g st = some r) : Goes P G o g r st a w lim := by
  have hx := h.ev x
  simp only [evalOp, ho] at e
  split at e
  · rename_i fields hu
    split at e
    · rename_i fd hf
      split at e
      · rename_i k nm gen off hs hm
        cases e
        rw [hm] at hx
        obtain ⟨B, d, hR, hxa⟩ := hx
        refine goes_val h (v := .pointer (some ⟨B, d + (off + fd.offset), none⟩)) ?_ ⟨B, d, hR, rfl⟩
        simp [execOp, ho, Instr.fieldAt, run_underlying hu, hf, hxa, Instr.sureAddr, fieldPlace, run_sizeOf' hs, add_addr, Nat.add_assoc]
      · rename_i k cs hs hm
        cases e
        rw [hm] at hx
        obtain ⟨b, o', vs, hxa, hb, hc, hv⟩ := hx
        refine goes_val h (v := .pointer (some ⟨b, o' + fd.offset, none⟩)) ?_ ⟨b, _, vs.drop fd.offset, rfl, hb, ?_, hv.drop _⟩
        · simp [execOp, ho, Instr.fieldAt, run_underlying hu, hf, hxa, Instr.sureAddr, fieldPlace, run_sizeOf' hs, add_addr]
        · intro i hi
          simp only [List.length_drop] at hi
          rw [List.getElem?_drop, Nat.add_assoc]
          exact hc _ (by omega)
      · cases e
    · cases e
  · cases e
end Go.Proofs.Ytkeelkeoijemiaa.Ev
