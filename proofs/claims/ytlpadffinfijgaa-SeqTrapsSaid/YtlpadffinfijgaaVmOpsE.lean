/- Making, appending and copying: the plain machine's are the model's. No conditions. -/
import Derived.Test.YtlpadffinfijgaaVmOpsD
import Derived.IntWalk
import Derived.Laws.MakeOwn
set_option linter.unusedVariables false
set_option linter.unusedSimpArgs false
namespace Go.Proofs.YtlpadffinfijgaaW.Vm
open Go Go.RowKit

section
variable {P : Program} {c : Cx} {t : TypeId}

/-- a slice's elements, as values in memory -/
theorem src {h : List Ob} (hr : HR c) (ag : Ag c h) {z : Nat} {x : D} {v : Value} {xs : List D} (hx : RV c x v) (he : elsZ h z x = some xs) :
    (∃ a cap, v = .slice a xs.length cap ∧ xs.length ≤ cap ∧ (a = none → xs = [] ∧ cap = 0)) ∧
    ∃ vs : List Value, vs.length = xs.length * z ∧ LiesL c xs vs z ∧ ∀ (n : Nat) (w : World), n ≤ xs.length → (∀ b off u, c.w.cell? ⟨b, off, none⟩ = some u → w.cell? ⟨b, off, none⟩ = some u) →
      (Builtin.firstCells z n v).run P w = .ok (vs.take (n * z)).toArray w := by
  have key : ∀ (b off : Nat) (cap : Nat) (a : Addr), v = .slice (some a) xs.length cap → xs.length ≤ cap → (cap ≠ 0 → a = ⟨b, off, none⟩) →
      (∀ (i : Nat) d, xs[i]? = some d → d.cells.length = z ∧ (∀ ds, d ≠ .tup ds) ∧ CellsAt c d.cells b (off + i * z)) →
      (∃ a cap, v = .slice a xs.length cap ∧ xs.length ≤ cap ∧ (a = none → xs = [] ∧ cap = 0)) ∧
      ∃ vs : List Value, vs.length = xs.length * z ∧ LiesL c xs vs z ∧ ∀ (n : Nat) (w : World), n ≤ xs.length → (∀ b off u, c.w.cell? ⟨b, off, none⟩ = some u → w.cell? ⟨b, off, none⟩ = some u) →
        (Builtin.firstCells z n v).run P w = .ok (vs.take (n * z)).toArray w := by
    intro b off cap a hv hcap ha hel
    refine ⟨⟨some a, cap, hv, hcap, by simp⟩, ?_⟩
    have hvs : ∀ (n : Nat), n ≤ xs.length → ∃ vs : List Value, vs.length = n * z ∧ LiesL c (xs.take n) vs z ∧ ∀ q u, vs[q]? = some u → c.w.cell? ⟨b, off + q, none⟩ = some u := by
      intro n
      induction n with
      | zero => intro _; exact ⟨[], by simp, by intro i d hd; simp at hd, by simp⟩
      | succ n ih =>
        intro hn
        obtain ⟨vs, h1, h2, h3⟩ := ih (by omega)
        obtain ⟨d, hd⟩ : ∃ d, xs[n]? = some d := ⟨xs[n], List.getElem?_eq_getElem (by omega)⟩
        obtain ⟨k1, k2, k3⟩ := hel n d hd
        obtain ⟨us, m1, m2, m3⟩ := ofList c k3
        refine ⟨vs ++ us, by rw [List.length_append, h1, ← m1, k1, Nat.succ_mul], ?_, fun q u hq => ?_⟩
        · have hone : LiesL c [d] us z := fun i x hx => by
            cases i with
            | zero =>
              simp only [List.getElem?_cons_zero, Option.some.injEq] at hx; subst hx
              refine ⟨k1, k2, fun j y hy => ?_⟩
              obtain ⟨u, n1, n2⟩ := m2.get hy
              exact ⟨(k3 j y hy).1, u, by simpa using n1, n2⟩
            | succ i => simp at hx
          have htk : xs.take (n + 1) = xs.take n ++ [d] := by
            rw [List.take_add_one, hd]; rfl
          rw [htk]
          exact h2.append (by rw [h1, List.length_take, Nat.min_eq_left (by omega)]) hone
        · rw [List.getElem?_append] at hq
          split at hq
          · exact h3 q u hq
          · have := m3 _ u hq
            rw [show off + n * z + (q - vs.length) = off + q by omega] at this
            exact this
    obtain ⟨vs, h1, h2, h3⟩ := hvs xs.length (Nat.le_refl _)
    rw [List.take_length] at h2
    refine ⟨vs, h1, h2, fun n w hn hw => ?_⟩
    subst hv
    by_cases h0 : n * z = 0
    · simp [Builtin.firstCells, h0, loadCells, loadCellsFrom]
    · have hcz : cap ≠ 0 := by
        intro hc
        have : n = 0 := by omega
        simp [this] at h0
      obtain rfl := ha hcz
      have hlt : n * z ≤ vs.length := by rw [h1]; exact Nat.mul_le_mul_right _ hn
      have := run_loadCells_list (P := P) w ⟨b, off, none⟩ (vs.take (n * z)) (fun j u hj => by
        rw [add_addr]
        rw [List.getElem?_take] at hj
        split at hj
        · exact hw _ _ _ (h3 j u hj)
        · cases hj)
      rw [List.length_take, Nat.min_eq_left hlt] at this
      simp [Builtin.firstCells, this]
  unfold elsZ at he
  split at he
  · simp only [Option.some.injEq] at he; subst he
    obtain rfl := hx.snil
    refine ⟨⟨none, 0, rfl, Nat.le_refl _, fun _ => ⟨rfl, rfl⟩⟩, [], by simp, fun i d hd => by simp at hd, fun n w hn _ => by simp [Builtin.firstCells]⟩
  · rename_i z' xs' tg
    split at he
    · rename_i hz
      simp only [Option.some.injEq] at he; subst he hz
      obtain ⟨_, b, off, cap, a, hv, hrow, hc, _, ha⟩ := hx.sl'
      exact key b off cap a hv hc ha fun i d hd => by
        obtain ⟨h1, h2, h3⟩ := hrow.get hd
        exact ⟨h1, h2, h3.at⟩
    · cases he
  · rename_i z' id ver off len
    split at he
    · rename_i hz
      unfold elsOf at he
      simp only at he
      split at he
      · rename_i o ho
        split at he
        · rename_i hc
          simp only [Option.some.injEq] at he; subst he
          have hid : id < h.length := (List.getElem?_eq_some_iff.1 ho).1
          obtain ⟨hz', hl, b, base, cap, a, hm, hv, hcap, hb, ha⟩ := hx.own' ((ag id hid).trans ho) hc.1
          obtain ⟨o', cells, el, h1, h2, h3, h4, h5⟩ := hr.ob _ _ _ hm
          rw [ag id hid, ho] at h1
          cases h1
          have hlen : ((o.els.drop off).take len).length = len := by simp; omega
          refine key b (base + off * z) cap a (by rw [hlen]; exact hv) (by rw [hlen]; exact hcap) (by rw [← hz, hz']; exact ha) fun i d hd => ?_
          rw [List.getElem?_take] at hd
          split at hd
          · rw [List.getElem?_drop] at hd
            obtain ⟨k1, k2, k3⟩ := h5 _ d hd
            refine ⟨by rw [← hz, hz']; exact k1, k2, ?_⟩
            have : CellsAt c d.cells b (base + (off + i) * o.esz) := k3
            rw [← hz', hz, Nat.add_mul, ← Nat.add_assoc] at this
            exact this
          · cases hd
        · cases he
      · cases he
    · cases he
  · cases he

/-- zeros in a row -/
theorem lies_zero {e : TypeId} {z : D} {zv : Value} {s : Nat} (hz : ofVal zv = some z) (hf : fits P e z = true) (hs : szT P e = some s) (n m : Nat) (hm : n * s ≤ m) :
    Lies c (List.replicate n z) ((Array.range m).map (zv.cells[· % zv.cells.size]!)) 0 s := fun i d hd => by
  obtain ⟨g, s', _, hs', f1, f2, f3, f4, f5⟩ := fits_cells hf
  rw [hs] at hs'; cases hs'
  have hi : i < n ∧ d = z := by
    rw [List.getElem?_replicate] at hd
    split at hd
    · simp only [Option.some.injEq] at hd; exact ⟨by assumption, hd.symm⟩
    · cases hd
  obtain ⟨hi, rfl⟩ := hi
  have hund : d ≠ .und := by rintro rfl; cases g <;> simp [D.one] at f4 f5
  have hcv := cells_rv (RV.cl (c := c) (ofVal_rc hz)) f2 hund
  have hsz : zv.cells.size = s := by rw [← Array.length_toList, ← hcv.length, f1]
  refine ⟨f1, f2, fun j x hx => ?_⟩
  obtain ⟨u, n1, n2⟩ := hcv.get hx
  refine ⟨List.all_eq_true.1 f3 x (List.mem_of_getElem? hx), u, ?_, n2⟩
  have hj : j < s := by have := (List.getElem?_eq_some_iff.1 hx).1; omega
  have : i * s + s ≤ n * s := by rw [← Nat.succ_mul]; exact Nat.mul_le_mul_right _ hi
  have hq : i * s + j < m := by omega
  simp only [Nat.zero_add, Array.getElem?_map, Array.getElem?_range, hq, if_true, Option.map_some, Option.some.injEq, hsz]
  rw [Nat.mul_comm i s, Nat.mul_add_mod, Nat.mod_eq_of_lt hj]
  have : zv.cells[j]? = some u := by simpa using n1
  simp [getElem!_def, this]

theorem natD_int {d : D} {n : Nat} {v : Value} (h : natD d = some n) (hx : RV c d v) : ∃ k, v = .int k (n : Int) := by
  unfold natD at h
  split at h
  · rename_i k i
    split at h
    · simp only [Option.some.injEq] at h
      exact ⟨k, by rw [hx.int, ← h]; congr 1; omega⟩
    · cases h
  · cases h
theorem wrap_nat {n : Nat} (h : n ≤ 140737488355328) : IntKind.i64.wrap (n : Int) = n := IntWalk.i64_in _ (by omega)

theorem byT_info {e : TypeId} {b : Nat} (h : byT P e = some b) : ∃ i, P.info? e = some i ∧ i.bytes = b := by
  unfold byT at h
  cases hi : P.info? e with
  | none => simp [hi] at h
  | some i => exact ⟨i, rfl, by simpa [hi] using h⟩

theorem makeSlice_al (hr : HR c) {e : TypeId} {l q : D} {lv cv : Value} (hl : RV c l lv) (hc : RV c q cv) {s by_ n k id : Nat} {z : D} (he : elemT P t = some e) (hs : szT P e = some s) (hb : byT P e = some by_) (hz : zeroT P e = some z)
    (hn : natD l = some n) (hk : natD q = some k) (g1 : n ≤ k) (g2 : k * by_ ≤ big) (g3 : 0 < by_) (g4 : 0 < s) (g5 : k ≤ big) (g6 : fits P e z = true) (hfree : FreeA c id s (List.replicate n z)) :
    ∃ v w', (Instr.makeSlice t lv cv).run P c.w = .ok v w' ∧ Al c id s (List.replicate n z) w' ∧ RV (addOb c id s (List.replicate n z) w') (.own s id 0 0 n) v := by
        obtain ⟨k1, rfl⟩ := natD_int hn hl
        obtain ⟨k2, rfl⟩ := natD_int hk hc
        obtain ⟨i, hi, hib⟩ := byT_info hb
        have hbig : big = 140737488355328 := by decide
        rw [hbig] at g2 g5
        obtain ⟨zv, hzi, hzo⟩ : ∃ zv, i.zero = some zv ∧ ofVal zv = some z := by
          unfold zeroT at hz
          simp only [hi, Option.map_some] at hz
          cases hzz : i.zero with
          | none => simp [hzz] at hz
          | some zv => exact ⟨zv, rfl, by simpa [hzz] using hz⟩
        have hsi : i.size = s := by
          unfold szT at hs
          simpa [hi] using hs
        have hbc : (i.bytes : Int) * (k : Int) ≤ 281474976710656 := by
          rw [hib, ← Int.natCast_mul, Nat.mul_comm]; omega
        have hrun := run_make (P := P) c.w t e i zv (elemT_und he) hi hzi k1 k2 (n : Int) (k : Int) (by omega) (by omega) hbc (by omega)
        simp only [Int.toNat_natCast, hsi] at hrun
        have hal := alloc_al hr hfree (cells := madeCells zv.cells (k * s)) (e := e) g4 (by rw [size_madeCells, List.length_replicate]; exact Nat.mul_le_mul_right _ g1)
          (lies_zero hzo g6 hs n (k * s) (Nat.mul_le_mul_right _ g1)) (.inl rfl)
        refine ⟨_, _, hrun, hal, ?_⟩
        refine .own (o := ⟨0, s, List.replicate n z, 0⟩) (b := c.w.heap.size) (base := 0) (by simp [addOb]) rfl rfl (by simp [addOb]) (by simp) g1 ?_ (fun _ => by simp)
        have hbs : bsz (c.w.alloc (Go.Obj.cells (madeCells zv.cells (k * s)) e)) c.w.heap.size = (madeCells zv.cells (k * s)).size := by
          unfold bsz
          show (match (c.w.heap.push (Go.Obj.cells (madeCells zv.cells (k * s)) e))[c.w.heap.size]? with | some (.cells c _ _) => c.size | _ => 0) = _
          simp
        show _ ≤ bsz (c.w.alloc (Go.Obj.cells (madeCells zv.cells (k * s)) e)) c.w.heap.size
        rw [hbs, size_madeCells]; simp
theorem run_makeSliceD {h h' : List Ob} (hr : HR c) (ag : Ag c h) {l q d : D} {lv cv : Value} (hl : RV c l lv) (hc : RV c q cv) (hfree : Free c h h') (hm : makeSliceD P h t l q = some (d, h')) :
    ∃ v w', (Instr.makeSlice t lv cv).run P c.w = .ok v w' ∧ ∃ c', c'.w = w' ∧ Step c h c' h' ∧ RV c' d v := by
  unfold makeSliceD at hm
  split at hm
  · cases hm
  · rename_i e he
    split at hm
    · rename_i s by_ z n k hs hb hz hn hk
      split at hm
      · rename_i hcond
        obtain ⟨g1, g2, g3, g4, g5, g6⟩ := hcond
        simp only [Option.some.injEq, Prod.mk.injEq] at hm
        obtain ⟨rfl, rfl⟩ := hm
        obtain ⟨v, w', h1, h2, h3⟩ := makeSlice_al hr hl hc he hs hb hz hn hk g1 g2 g3 g4 g5 g6 hfree.a
        exact ⟨v, w', h1, _, rfl, h2.step ag, h3⟩
      · cases hm
    · cases hm

theorem bsz_alloc (w : World) (cells : Array Value) (e : TypeId) : bsz (w.alloc (Go.Obj.cells cells e)) w.heap.size = cells.size := by
  unfold bsz
  show (match (w.heap.push (Go.Obj.cells cells e))[w.heap.size]? with | some (.cells c _ _) => c.size | _ => 0) = _
  simp

theorem buildSlice_run (hr : HR c) {e : TypeId} {ps : Array (Nat × Operand)} {σ : Nat → D} {a : Act} (ht : ∀ t, RV c (σ t) (a.tmps.getD t undef)) {ds : List (Nat × D)} {n s : Nat} {g : Bool} {z : D} {els : List D}
    (hev : evps σ ps.toList = some ds) (he : elemT P t = some e) (hs : szT P e = some s) (hz : zeroT P e = some z) (g1 : n * s ≤ 2 ^ 24) (g2 : fits P e z = true) (g3 : 0 < s)
    (hf : fillD s g (List.replicate n z) ds = some els) :
    ∃ us' : Array Value, (Instr.buildSlice t n (ps.map fun (i, x) => (i, a.eval x))).run P c.w = .ok (.slice (some ⟨c.w.heap.size, 0, none⟩) n n) (c.w.alloc (.cells us' e)) ∧ us'.size = els.length * s ∧ Lies c els us' 0 s ∧ els.length = n := by
  obtain ⟨e1, e2⟩ := evps_rv ht hev
  have hv1 : ds.map (·.1) = (ps.map fun (i, x) => (i, a.eval x)).toList.map (·.1) := by rw [e1]; simp
  have hv2 : RVs c (ds.map (·.2)) ((ps.map fun (i, x) => (i, a.eval x)).toList.map (·.2)) := by simpa [Function.comp_def] using e2
  obtain ⟨zv, hzr, hzo⟩ := run_zero (w := c.w) hz
  -- filling
  have fillL : ∀ (ds : List (Nat × D)) (vs : List (Nat × Value)) (xs xs' : List D) (us : Array Value), ds.map (·.1) = vs.map (·.1) → RVs c (ds.map (·.2)) (vs.map (·.2)) → us.size = xs.length * s → Lies c xs us 0 s →
      fillD s g xs ds = some xs' → ∃ us', Instr.fill (fun i => some (i * s, s)) us vs = some us' ∧ us'.size = xs'.length * s ∧ Lies c xs' us' 0 s ∧ xs'.length = xs.length := by
    intro ds
    induction ds with
    | nil =>
      intro vs xs xs' us h1 _ h3 h4 h5
      cases vs with
      | nil => simp only [fillD, Option.some.injEq] at h5; subst h5; exact ⟨us, rfl, h3, h4, rfl⟩
      | cons v vs => simp at h1
    | cons d ds ih =>
      intro vs xs xs' us h1 h2 h3 h4 h5
      obtain ⟨i, d⟩ := d
      cases vs with
      | nil => simp at h1
      | cons v vs =>
        obtain ⟨i', v⟩ := v
        simp only [List.map_cons, List.cons.injEq] at h1 h2
        obtain ⟨rfl, h1⟩ := h1
        cases h2 with
        | cons hd h2 =>
          simp only [fillD] at h5
          split at h5
          · rename_i hc
            obtain ⟨n1, n2⟩ := ones_ok hc.2.2.2
            have hcv := cells_rv hd n1 n2
            have hvs : v.cells.size = s := by rw [← Array.length_toList, ← hcv.length, hc.2.1]
            have hil : i * s + s ≤ xs.length * s := by rw [← Nat.succ_mul]; exact Nat.mul_le_mul_right _ hc.1
            rw [fill_one (fun i => some (i * s, s)) us i v vs rfl hvs (by omega)]
            have hsz : (us.toList.take (i * s) ++ v.cells.toList ++ us.toList.drop (i * s + s)).toArray.size = us.size := by simp [hvs]; omega
            obtain ⟨us', k1, k2, k3, k4⟩ := ih vs (xs.set i d) xs' (us.toList.take (i * s) ++ v.cells.toList ++ us.toList.drop (i * s + s)).toArray h1 h2 (by rw [hsz]; simpa using h3) (fun q x hx => by
              by_cases hq : q = i
              · subst hq
                rw [List.getElem?_set_self hc.1] at hx
                simp only [Option.some.injEq] at hx; subst hx
                refine ⟨hc.2.1, n1, fun j y hy => ?_⟩
                obtain ⟨u, m1, m2⟩ := hcv.get hy
                refine ⟨List.all_eq_true.1 hc.2.2.2 y (List.mem_of_getElem? hy), u, ?_, m2⟩
                have hj : j < s := by have := (List.getElem?_eq_some_iff.1 hy).1; omega
                simp only [Nat.zero_add, List.getElem?_toArray, List.getElem?_append, List.length_append, List.length_take, Array.length_toList, hvs]
                rw [Nat.min_eq_left (by omega), if_pos (by omega), if_neg (by omega), show q * s + j - q * s = j by omega]
                exact m1
              · rw [List.getElem?_set_ne (Ne.symm hq)] at hx
                obtain ⟨m1, m2, m3⟩ := h4 q x hx
                refine ⟨m1, m2, fun j y hy => ?_⟩
                obtain ⟨m4, u, m5, m6⟩ := m3 j y hy
                refine ⟨m4, u, ?_, m6⟩
                have hj : j < s := by have := (List.getElem?_eq_some_iff.1 hy).1; omega
                simp only [Nat.zero_add] at m5 ⊢
                simp only [List.getElem?_toArray, List.getElem?_append, List.length_append, List.length_take, Array.length_toList, List.getElem?_take, List.getElem?_drop, hvs]
                rw [Nat.min_eq_left (by omega)]
                rcases Nat.lt_or_gt_of_ne hq with hlt | hgt
                · have : q * s + s ≤ i * s := by rw [← Nat.succ_mul]; exact Nat.mul_le_mul_right _ hlt
                  rw [if_pos (by omega), if_pos (by omega), if_pos (by omega)]; simpa using m5
                · have : i * s + s ≤ q * s := by rw [← Nat.succ_mul]; exact Nat.mul_le_mul_right _ hgt
                  rw [if_neg (by omega), show i * s + s + (q * s + j - (i * s + s)) = q * s + j by omega]; simpa using m5) h5
            exact ⟨us', k1, k2, k3, by simpa using k4⟩
          · cases h5
  obtain ⟨us', k1, k2, k3, k4⟩ := fillL ds _ _ els (madeCells (if n * s = 0 then #[] else zv.cells) (n * s)) hv1 hv2 (by simp [size_madeCells]) (by
    by_cases h0 : n * s = 0
    · have : n = 0 := by rcases Nat.mul_eq_zero.1 h0 with h | h <;> omega
      subst this
      intro i d hd; simp at hd
    · rw [if_neg h0]
      exact lies_zero hzo g2 hs n (n * s) (Nat.le_refl _)) hf
  have hel : els.length = n := by simpa using k4
  refine ⟨us', ?_, k2, k3, hel⟩
  · have hn : ¬ (2 ^ 24 < n * s) := by omega
    unfold madeCells at k1
    simp only [Instr.buildSlice, Sem.run_bind, run_und (elemT_und he), Result.andThen_ok, run_sizeOf hs]
    rw [if_neg (by omega)]
    by_cases h0 : n * s = 0
    · simp only [h0, if_true] at k1 ⊢
      simp at k1
      simp [k1, newRow]
    · simp only [h0, if_false] at k1 ⊢
      simp only [Array.toList_map] at k1
      simp [hzr, k1, newRow]
theorem buildSlice_al {id : Nat} (hr : HR c) {e : TypeId} {ps : Array (Nat × Operand)} {σ : Nat → D} {a : Act} (ht : ∀ t, RV c (σ t) (a.tmps.getD t undef)) {ds : List (Nat × D)} {n s : Nat} {g : Bool} {z : D} {els : List D}
    (hev : evps σ ps.toList = some ds) (he : elemT P t = some e) (hs : szT P e = some s) (hz : zeroT P e = some z) (g1 : n * s ≤ 2 ^ 24) (g2 : fits P e z = true) (g3 : 0 < s)
    (hf : fillD s g (List.replicate n z) ds = some els) (hfree : FreeA c id s els) :
    ∃ v w', (Instr.buildSlice t n (ps.map fun (i, x) => (i, a.eval x))).run P c.w = .ok v w' ∧ Al c id s els w' ∧ RV (addOb c id s els w') (.own s id 0 0 n) v := by
  obtain ⟨us', k1, k2, k3, hel⟩ := buildSlice_run hr ht hev he hs hz g1 g2 g3 hf
  have hal := alloc_al hr hfree (cells := us') (e := e) g3 (by omega) k3 (.inl rfl)
  refine ⟨.slice (some ⟨c.w.heap.size, 0, none⟩) n n, c.w.alloc (.cells us' e), k1, hal, ?_⟩
  refine .own (o := ⟨0, s, els, 0⟩) (b := c.w.heap.size) (base := 0) (by simp [addOb]) rfl rfl (by simp [addOb]) (by show 0 + n ≤ els.length; omega) (Nat.le_refl _) ?_ (fun _ => by simp)
  show _ ≤ bsz (c.w.alloc (Go.Obj.cells us' e)) c.w.heap.size
  rw [bsz_alloc, k2, hel]; simp
theorem run_buildSliceD {h : List Ob} (hr : HR c) (ag : Ag c h) {e : TypeId} {ps : Array (Nat × Operand)} {σ : Nat → D} {a : Act} (ht : ∀ t, RV c (σ t) (a.tmps.getD t undef)) {ds : List (Nat × D)} {n s : Nat} {g : Bool} {z : D} {els : List D}
    (hev : evps σ ps.toList = some ds) (he : elemT P t = some e) (hs : szT P e = some s) (hz : zeroT P e = some z) (g1 : n * s ≤ 2 ^ 24) (g2 : fits P e z = true) (g3 : 0 < s)
    (hf : fillD s g (List.replicate n z) ds = some els) (hfree : Free c h (newOb h s els)) :
    ∃ v w', (Instr.buildSlice t n (ps.map fun (i, x) => (i, a.eval x))).run P c.w = .ok v w' ∧ ∃ c', c'.w = w' ∧ Step c h c' (newOb h s els) ∧ RV c' (.own s h.length 0 0 n) v := by
  obtain ⟨v, w', h1, h2, h3⟩ := buildSlice_al hr ht hev he hs hz g1 g2 g3 hf hfree.a
  exact ⟨v, w', h1, _, rfl, h2.step ag, h3⟩
end
end Go.Proofs.YtlpadffinfijgaaW.Vm
