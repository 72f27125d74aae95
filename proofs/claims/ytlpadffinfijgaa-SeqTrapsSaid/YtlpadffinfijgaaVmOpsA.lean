/- Loads, stores and new variables of the plain machine are the model's. No conditions. -/
import Derived.Test.YtlpadffinfijgaaVmStep
set_option linter.unusedVariables false
set_option linter.unusedSimpArgs false
namespace Go.Proofs.YtlpadffinfijgaaW.Vm
open Go Go.RowKit

section
variable {P : Program} {w : World} {t : TypeId}
theorem run_und {d : TypeDesc} (h : P.underlying t = some d) : (underlying t).run P w = .ok d w := by simp [underlying, h]
theorem run_isAgg {ag : Bool} (h : aggT P t = some ag) : (isAgg t).run P w = .ok ag w := by
  unfold aggT at h
  cases hu : P.underlying t with
  | none => simp [hu] at h
  | some d =>
    simp only [hu, Option.map_some, Option.some.injEq] at h
    unfold isAgg
    simp only [Sem.run_bind, run_und hu, Result.andThen_ok]
    cases d <;> simp_all
theorem run_sizeOf {s : Nat} (h : szT P t = some s) : (sizeOf t).run P w = .ok s w := by
  unfold szT at h
  cases hu : P.info? t with
  | none => simp [hu] at h
  | some d =>
    simp only [hu, Option.map_some, Option.some.injEq] at h
    simp [sizeOf, typeInfo, hu, h]
theorem run_zero {z : D} (h : zeroT P t = some z) : ∃ v, (zeroValue t).run P w = .ok v w ∧ ofVal v = some z := by
  unfold zeroT at h
  cases hu : P.info? t with
  | none => simp [hu] at h
  | some i =>
    cases hz : i.zero with
    | none => simp [hu, hz] at h
    | some v =>
      simp only [hu, hz, Option.map_some] at h
      exact ⟨v, by simp [zeroValue, typeInfo, hu, hz], h⟩
end

/-- these values lie in these cells -/
def CellsAt (c : Cx) (cs : List D) (b off : Nat) : Prop := ∀ (j : Nat) x, cs[j]? = some x → x.one = true ∧ ∃ u, c.w.cell? ⟨b, off + j, none⟩ = some u ∧ RV c x u
theorem RCells.at {c : Cx} {cs : List D} {b off : Nat} (h : RCells c.w (live c) cs b off) : CellsAt c cs b off := fun j x hx => by
  obtain ⟨h1, u, h2, _, h4⟩ := h.get hx
  exact ⟨h1, u, h2, .cl h4⟩
theorem VEl.at {c : Cx} {d : D} {b off z : Nat} (h : VEl c d b off z) : CellsAt c d.cells b off := h.2.2
theorem add_addr (b o i : Nat) : (⟨b, o, none⟩ : Addr).add i = ⟨b, o + i, none⟩ := by unfold Addr.add; split <;> simp_all

theorem ofList (c : Cx) {cs : List D} {b off : Nat} (h : CellsAt c cs b off) : ∃ vs : List Value, cs.length = vs.length ∧ RVs c cs vs ∧ ∀ (j : Nat) v, vs[j]? = some v → c.w.cell? ⟨b, off + j, none⟩ = some v := by
  induction cs generalizing off with
  | nil => exact ⟨[], rfl, .nil, by simp⟩
  | cons d cs ih =>
    obtain ⟨h1, u, h2, h3⟩ := h 0 d (by simp)
    obtain ⟨vs, e1, e2, e3⟩ := ih (off := off + 1) fun j x hx => by
      have := h (j + 1) x (by simpa using hx)
      rw [show off + (j + 1) = off + 1 + j by omega] at this
      exact this
    refine ⟨u :: vs, by simp [e1], .cons h3 e2, fun j v hv => ?_⟩
    cases j with
    | zero => simp only [List.getElem?_cons_zero, Option.some.injEq] at hv; subst hv; simpa using h2
    | succ j =>
      have := e3 j v (by simpa using hv)
      rw [show off + (j + 1) = off + 1 + j by omega]
      exact this
theorem CellsAt.drop {c : Cx} {cs : List D} {b off : Nat} (h : CellsAt c cs b off) (j : Nat) : CellsAt c (cs.drop j) b (off + j) := fun k x hx => by
  have := h (j + k) x (by simpa [List.getElem?_drop] using hx)
  rw [show off + j + k = off + (j + k) by omega]
  exact this
theorem CellsAt.take {c : Cx} {cs : List D} {b off : Nat} (h : CellsAt c cs b off) (n : Nat) : CellsAt c (cs.take n) b off := fun k x hx => by
  rw [List.getElem?_take] at hx
  split at hx
  · exact h k x hx
  · cases hx

theorem run_loadAgg {P : Program} {c : Cx} {t : TypeId} {s : Nat} (ha : aggT P t = some true) (hs : szT P t = some s) {cs : List D} {b off : Nat} (h : CellsAt c cs b off) (hl : cs.length = s) :
    ∃ v, (loadVar t ⟨b, off, none⟩).run P c.w = .ok v c.w ∧ RV c (.agg cs) v := by
  obtain ⟨vs, e1, e2, e3⟩ := ofList c h
  refine ⟨.agg vs.toArray, ?_, .agg (by simpa using e2)⟩
  have := run_loadCells_list (P := P) c.w ⟨b, off, none⟩ vs (fun j v hv => by rw [add_addr]; exact e3 j v hv)
  rw [← e1, hl] at this
  simp [loadVar, run_isAgg ha, run_sizeOf hs, this]
theorem run_loadOne {P : Program} {c : Cx} {t : TypeId} (ha : aggT P t = some false) {x : D} {b off : Nat} {u : Value} (h : c.w.cell? ⟨b, off, none⟩ = some u) :
    (loadVar t ⟨b, off, none⟩).run P c.w = .ok u c.w := by
  simp [loadVar, run_isAgg ha, h]

theorem run_ldEl {P : Program} {c : Cx} {t : TypeId} {s : Nat} {ag : Bool} (ha : aggT P t = some ag) (hs : szT P t = some s) {e d : D} {b off j : Nat} (h : CellsAt c e.cells b off)
    (hl : ldEl e j s ag = some d) : ∃ v, (loadVar t ⟨b, off + j, none⟩).run P c.w = .ok v c.w ∧ RV c d v := by
  unfold ldEl at hl
  cases ag with
  | true =>
    simp only [if_true] at hl
    split at hl
    · rename_i cs
      simp only [D.cells] at h
      split at hl
      · rename_i hc
        simp only [Option.some.injEq] at hl; subst hl
        rw [hc.1]
        exact run_loadAgg ha hs h hc.2
      · split at hl
        · rename_i hc
          simp only [Option.some.injEq] at hl; subst hl
          exact run_loadAgg ha hs ((h.drop j).take s) (by simp; omega)
        · cases hl
    · cases hl
  | false =>
    simp only [Bool.false_eq_true, if_false] at hl
    obtain ⟨h1, u, h2, h3⟩ := h j d hl
    exact ⟨u, run_loadOne ha (x := d) h2, h3⟩

theorem run_load {P : Program} {c : Cx} {h : List Ob} (hr : HR c) (ag : Ag c h) {t : TypeId} {p d : D} {v : Value} (hp : RV c p v) (hl : ldD P h t p = some d) :
    ∃ u, (Instr.loadAt t v).run P c.w = .ok u c.w ∧ RV c d u := by
  unfold ldD at hl
  split at hl
  · rename_i g s z xs i j ha hs
    unfold ldEls at hl
    split at hl
    · cases hl
    · rename_i e he
      obtain ⟨hz, b, off, rfl, hrow⟩ := hp.fptr'
      obtain ⟨h1, h2, h3⟩ := hrow.get he
      obtain ⟨u, h4, h5⟩ := run_ldEl ha hs h3.at hl
      exact ⟨u, by simpa [Instr.loadAt, Instr.sureAddr] using h4, h5⟩
  · rename_i g s id ver i j ha hs
    split at hl
    · rename_i o ho
      split at hl
      · rename_i hv
        unfold ldEls at hl
        split at hl
        · cases hl
        · rename_i e he
          have hid : id < h.length := (List.getElem?_eq_some_iff.1 ho).1
          obtain ⟨b, base, hm, rfl⟩ := hp.ptr' ((ag id hid).trans ho) hv
          obtain ⟨o', cells, el, h1, h2, h3, h4, h5⟩ := hr.ob _ _ _ hm
          rw [ag id hid, ho] at h1
          cases h1
          obtain ⟨u, h6, h7⟩ := run_ldEl ha hs (h5 i e he).at hl
          exact ⟨u, by simpa [Instr.loadAt, Instr.sureAddr] using h6, h7⟩
      · cases hl
    · cases hl
  · cases hl

/-! stores -/
theorem fits_cells {P : Program} {t : TypeId} {d : D} (h : fits P t d = true) : ∃ ag s, aggT P t = some ag ∧ szT P t = some s ∧ d.cells.length = s ∧ (∀ ds, d ≠ .tup ds) ∧ d.cells.all D.one = true ∧
    (ag = true → ∃ cs, d = .agg cs) ∧ (ag = false → d.one = true ∧ s = 1 ∧ d.cells = [d]) := by
  unfold fits at h
  split at h
  · rename_i s ha hs
    split at h
    · rename_i cs
      simp only [Bool.and_eq_true, beq_iff_eq] at h
      exact ⟨true, s, ha, hs, h.1, fun _ h => (by cases h), h.2, fun _ => ⟨cs, rfl⟩, fun h => (by cases h)⟩
    · cases h
  · rename_i ha hs
    have hc : d.cells = [d] := by cases d <;> simp [D.one] at h <;> rfl
    exact ⟨false, 1, ha, hs, by rw [hc]; rfl, by rintro ds rfl; simp [D.one] at h, by rw [hc]; simp [h], fun h => (by cases h), fun _ => ⟨h, rfl, hc⟩⟩
  · cases h
theorem cells_rv {c : Cx} {d : D} {v : Value} (h : RV c d v) (ht : ∀ ds, d ≠ .tup ds) (hu : d ≠ .und) : RVs c d.cells v.cells.toList := by
  by_cases hd : ∃ cs, d = .agg cs
  · obtain ⟨cs, rfl⟩ := hd
    obtain ⟨vs, rfl, h2⟩ := h.agg'
    exact h2
  · have h1 : d.one = true := by cases d <;> first | rfl | exact absurd ⟨_, rfl⟩ hd | exact absurd rfl (ht _) | exact absurd rfl hu
    have hc : d.cells = [d] := by cases d <;> first | rfl | exact absurd ⟨_, rfl⟩ hd
    have h2 := h.one' h1
    have hv : v.cells = #[v] := by cases v <;> first | rfl | (simp [Value.oneCell'] at h2)
    rw [hc, hv]
    exact .cons h .nil
theorem RVs.ones {c : Cx} : ∀ {ds : List D} {vs : List Value}, RVs c ds vs → ds.all D.one = true → ∀ v ∈ vs, v.oneCell' = true
  | _, _, .nil, _, v, hv => by simp at hv
  | _, _, .cons h r, ha, v, hv => by
    simp only [List.all_cons, Bool.and_eq_true] at ha
    rcases List.mem_cons.1 hv with rfl | hv
    · exact h.one' ha.1
    · exact r.ones ha.2 v hv

theorem stEl_cells {e v e' : D} {j s : Nat} {ag : Bool} (h : stEl e j s ag v = some e') (hs : v.cells.length = s) (h1 : ag = false → v.one = true ∧ s = 1 ∧ v.cells = [v])
    (hg : ag = true → ∃ cs, v = .agg cs) (he : ∀ ds, e ≠ .tup ds) :
    j + s ≤ e.cells.length ∧ e'.cells = e.cells.take j ++ v.cells ++ e.cells.drop (j + s) ∧ (∀ ds, e' ≠ .tup ds) := by
  unfold stEl at h
  cases ag with
  | true =>
    simp only [if_true] at h
    split at h
    · rename_i cs vs
      simp only [D.cells] at hs
      split at h
      · rename_i hc
        simp only [Option.some.injEq] at h; subst h
        refine ⟨by simp [D.cells]; omega, ?_, by simp⟩
        simp only [D.cells, hc.1, List.take_zero, List.nil_append]
        rw [List.drop_eq_nil_of_le (by omega)]; simp
      · split at h
        · rename_i hc
          simp only [Option.some.injEq] at h; subst h
          exact ⟨by simpa [D.cells] using hc, by simp [D.cells], by simp⟩
        · cases h
    · cases h
  | false =>
    obtain ⟨h1, rfl, hc⟩ := h1 rfl
    simp only [Bool.false_eq_true, if_false] at h
    split at h
    · rename_i cs
      split at h
      · rename_i hj
        simp only [Option.some.injEq] at h; subst h
        refine ⟨hj, ?_, by simp⟩
        show cs.set j v = cs.take j ++ v.cells ++ cs.drop (j + 1)
        rw [hc, List.set_eq_take_append_cons_drop, if_pos hj]; simp
      · cases h
    · cases h
    · rename_i hna hnt
      split at h
      · rename_i hj
        simp only [Option.some.injEq] at h; subst h
        subst hj
        have hce : e.cells = [e] := by cases e <;> first | rfl | exact absurd rfl (hna _)
        refine ⟨by simp [hce], by simp [hce, hc], ?_⟩
        rintro ds rfl; simp [D.one] at h1
      · cases h

theorem run_store {P : Program} {c : Cx} {h h' : List Ob} (hr : HR c) (ag : Ag c h) {t : TypeId} {p d : D} {v u : Value} (hp : RV c p v) (hd : RV c d u) (hs : stD P h t p d = some h') :
    ∃ w', (Instr.storeAt t v u).run P c.w = .ok () w' ∧ ∃ c', c'.w = w' ∧ Step c h c' h' := by
  unfold stD at hs
  split at hs
  · rename_i g s id ver i j ha hsz
    split at hs
    · rename_i hf
      split at hs
      · rename_i o ho
        split at hs
        · rename_i hv
          simp only [Option.map_eq_some_iff] at hs
          obtain ⟨els, hs, rfl⟩ := hs
          unfold stEls at hs
          split at hs
          · cases hs
          · rename_i e he
            simp only [Option.map_eq_some_iff] at hs
            obtain ⟨e', hs, rfl⟩ := hs
            obtain ⟨g', s', ha', hs', f1, f2, f3, f4, f5⟩ := fits_cells hf
            rw [ha] at ha'; cases ha'
            rw [hsz] at hs'; cases hs'
            have hid : id < h.length := (List.getElem?_eq_some_iff.1 ho).1
            obtain ⟨b, base, hm, rfl⟩ := hp.ptr' ((ag id hid).trans ho) hv.1
            obtain ⟨o', cells, el, h1, h2, h3, h4, h5⟩ := hr.ob _ _ _ hm
            rw [ag id hid, ho] at h1
            cases h1
            obtain ⟨k1, k2, k3⟩ := h5 i e he
            obtain ⟨m1, m2, m3⟩ := stEl_cells hs f1 f5 f4 k2
            have hund : d ≠ .und := by rintro rfl; cases g <;> simp [D.one] at f4 f5
            have hcv := cells_rv hd f2 hund
            have hlen : u.cells.toList.length = s := by rw [← hcv.length, f1]
            have hil : i < o.els.length := (List.getElem?_eq_some_iff.1 he).1
            have hfit : base + i * o.esz + j + s ≤ cells.size := by
              have : i * o.esz + o.esz ≤ o.els.length * o.esz := by
                rw [← Nat.succ_mul]; exact Nat.mul_le_mul_right _ hil
              omega
            have hst := run_storeCells_at P b (base + i * o.esz + j) el u.cells.toList 0 cells c.w h2 (by omega) (hcv.ones f3)
            simp only [Nat.add_zero] at hst
            refine ⟨c.w.setRow b (cells.toList.take (base + i * o.esz + j) ++ u.cells.toList ++ cells.toList.drop (base + i * o.esz + j + u.cells.toList.length)).toArray, ?_, ?_⟩
            · simp only [Instr.storeAt, Instr.sureAddr, Sem.run_bind, Sem.run_pure, Result.andThen_ok, storeVar, run_sizeOf hsz]
              rw [if_neg (by simp only [Array.length_toList] at hlen; simp [hlen])]
              exact hst
            · have hcur : ∀ q, q < base + i * o.esz + j ∨ base + i * o.esz + j + s ≤ q →
                  (cells.toList.take (base + i * o.esz + j) ++ u.cells.toList ++ cells.toList.drop (base + i * o.esz + j + u.cells.toList.length)).toArray[q]? = cells[q]? := by
                intro q hq
                simp only [List.getElem?_toArray, List.getElem?_append, List.length_append, List.length_take, Array.length_toList, List.getElem?_take, List.getElem?_drop]
                simp only [Array.length_toList] at hlen
                rw [hlen, Nat.min_eq_left (by omega)]
                rcases hq with hq | hq
                · rw [if_pos (by omega), if_pos hq, if_pos hq]; simp
                · rw [if_neg (by omega)]
                  rw [show base + i * o.esz + j + s + (q - (base + i * o.esz + j + s)) = q by omega]; simp
              have hin : ∀ q, q < s → (cells.toList.take (base + i * o.esz + j) ++ u.cells.toList ++ cells.toList.drop (base + i * o.esz + j + u.cells.toList.length)).toArray[base + i * o.esz + j + q]? = u.cells.toList[q]? := by
                intro q hq
                simp only [List.getElem?_toArray, List.getElem?_append, List.length_append, List.length_take, Array.length_toList]
                simp only [Array.length_toList] at hlen
                rw [hlen, Nat.min_eq_left (by omega), if_pos (by omega), if_neg (by omega), show base + i * o.esz + j + q - (base + i * o.esz + j) = q by omega]
              have hrow := setRow_heap c.w b cells (cells.toList.take (base + i * o.esz + j) ++ u.cells.toList ++ cells.toList.drop (base + i * o.esz + j + u.cells.toList.length)).toArray el (0, 0) h2
              have hsize : (cells.toList.take (base + i * o.esz + j) ++ u.cells.toList ++ cells.toList.drop (base + i * o.esz + j + u.cells.toList.length)).toArray.size = cells.size := by
                simp only [List.size_toArray, List.length_append, List.length_take, List.length_drop, Array.length_toList]
                simp only [Array.length_toList] at hlen
                omega
              obtain ⟨c', e1, e2, _⟩ := move_step (o' := { o with els := o.els.set i e' }) hr ag hm ho (w' := c.w.setRow b (cells.toList.take (base + i * o.esz + j) ++ u.cells.toList ++ cells.toList.drop (base + i * o.esz + j + u.cells.toList.length)).toArray)
                (by simp) rfl rfl rfl (fun k _ hk => setRow_other _ _ _ _ hk) (by unfold bsz; rw [hrow, h2]; exact hsize)
                (fun off x hx ho2 => by
                  rw [cell_at hrow, hcur off (.inl (by have : o.frz * o.esz ≤ i * o.esz := Nat.mul_le_mul_right _ hv.2; omega)), ← cell_at h2]; exact hx)
                (.inl ⟨rfl, Nat.le_refl _⟩) (.inr ⟨rfl, rfl, by simp, rfl, rfl⟩) hrow h3 (by rw [hsize]; simpa using h4)
                (fun k x hx => by
                  simp only at hx ⊢
                  by_cases hki : k = i
                  · subst hki
                    rw [List.getElem?_set_self (by omega)] at hx
                    simp only [Option.some.injEq] at hx; subst hx
                    refine ⟨by rw [m2]; simp; omega, m3, fun q y hy => ?_⟩
                    rw [m2] at hy
                    simp only [List.getElem?_append, List.length_append, List.length_take] at hy
                    rw [Nat.min_eq_left (by omega), f1] at hy
                    split at hy
                    · split at hy
                      · rename_i hq1 hq2
                        rw [List.getElem?_take, if_pos hq2] at hy
                        obtain ⟨n1, n2, n3, n4⟩ := k3 q y hy
                        exact ⟨n1, n2, by rw [hcur _ (.inl (by omega)), ← cell_at h2]; exact n3, n4⟩
                      · rename_i hq1 hq2
                        obtain ⟨y', n1, n2⟩ := hcv.get hy
                        have hys : y.one = true := by
                          have := List.all_eq_true.1 f3 y (List.mem_of_getElem? hy)
                          exact this
                        refine ⟨hys, y', ?_, n2⟩
                        have := hin (q - j) (by omega)
                        rw [show base + k * o.esz + j + (q - j) = base + k * o.esz + q by omega] at this
                        rw [this]; exact n1
                    · rename_i hq1
                      rw [List.getElem?_drop, show j + s + (q - (j + s)) = q by omega] at hy
                      obtain ⟨n1, n2, n3, n4⟩ := k3 q y hy
                      exact ⟨n1, n2, by rw [hcur _ (.inr (by omega)), ← cell_at h2]; exact n3, n4⟩
                  · rw [List.getElem?_set_ne (Ne.symm hki)] at hx
                    obtain ⟨n1, n2, n3⟩ := h5 k x hx
                    refine ⟨n1, n2, fun q y hy => ?_⟩
                    obtain ⟨n4, n5, n6, n7⟩ := n3 q y hy
                    have hq : q < o.esz := by have := (List.getElem?_eq_some_iff.1 hy).1; omega
                    have hout : base + k * o.esz + q < base + i * o.esz + j ∨ base + i * o.esz + j + s ≤ base + k * o.esz + q := by
                      rcases Nat.lt_or_gt_of_ne hki with hlt | hgt
                      · have : k * o.esz + o.esz ≤ i * o.esz := by rw [← Nat.succ_mul]; exact Nat.mul_le_mul_right _ hlt
                        omega
                      · have : i * o.esz + o.esz ≤ k * o.esz := by rw [← Nat.succ_mul]; exact Nat.mul_le_mul_right _ hgt
                        omega
                    exact ⟨n4, n5, by rw [hcur _ hout, ← cell_at h2]; exact n6, n7⟩)
              exact ⟨c', e1, e2⟩
        · cases hs
      · cases hs
    · cases hs
  · cases hs

/-! new variables -/
theorem newVar_al {P : Program} {c : Cx} (hr : HR c) {id : Nat} {t : TypeId} {d : D} {u : Value} {s : Nat} (hd : RV c d u) (hf : fits P t d = true) (hs : szT P t = some s) (h0 : 0 < s)
    (hfree : FreeA c id s [d]) : ∃ v w', (newVar t u).run P c.w = .ok v w' ∧ Al c id s [d] w' ∧ RV (addOb c id s [d] w') (.ptr id 0 0 0) (.pointer (some v)) := by
  obtain ⟨g', s', ha', hs', f1, f2, f3, f4, f5⟩ := fits_cells hf
  rw [hs] at hs'; cases hs'
  have hund : d ≠ .und := by rintro rfl; cases g' <;> simp [D.one] at f4 f5
  have hcv := cells_rv hd f2 hund
  have hlen : u.cells.size = s := by rw [← Array.length_toList, ← hcv.length, f1]
  have hal := alloc_al hr (els := [d]) (z := s) hfree (cells := u.cells) (e := t) h0 (by simp [hlen]) (fun i x hx => by
    cases i with
    | zero =>
      simp only [List.getElem?_cons_zero, Option.some.injEq] at hx; subst hx
      refine ⟨f1, f2, fun j y hy => ?_⟩
      obtain ⟨y', n1, n2⟩ := hcv.get hy
      refine ⟨List.all_eq_true.1 f3 y (List.mem_of_getElem? hy), y', ?_, n2⟩
      simpa using n1
    | succ i => simp at hx) (.inl rfl)
  refine ⟨⟨c.w.heap.size, 0, none⟩, _, by simp [newVar, newRow], hal, ?_⟩
  exact .ptr (o := ⟨0, s, [d], 0⟩) (b := c.w.heap.size) (base := 0) (by simp [addOb]) rfl (by simp [addOb]) (by simp)
theorem run_newVar {P : Program} {c : Cx} {h : List Ob} (hr : HR c) (ag : Ag c h) {t : TypeId} {d : D} {u : Value} {s : Nat} (hd : RV c d u) (hf : fits P t d = true) (hs : szT P t = some s) (h0 : 0 < s)
    (hfree : Free c h (newOb h s [d])) :
    ∃ v w', (newVar t u).run P c.w = .ok v w' ∧ ∃ c', c'.w = w' ∧ Step c h c' (newOb h s [d]) ∧ RV c' (.ptr h.length 0 0 0) (.pointer (some v)) := by
  obtain ⟨v, w', h1, h2, h3⟩ := newVar_al hr hd hf hs h0 hfree.a
  exact ⟨v, w', h1, _, rfl, h2.step ag, h3⟩
end Go.Proofs.YtlpadffinfijgaaW.Vm
