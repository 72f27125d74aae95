/- Parts, places, bounds, comparisons and arithmetic of the plain machine are the model's. No conditions. -/
import Derived.Test.YtlpadffinfijgaaVmOpsA
import Derived.Laws.StructEq
import Derived.WalkSpells
set_option linter.unusedVariables false
set_option linter.unusedSimpArgs false
namespace Go.Proofs.YtlpadffinfijgaaW.Vm
open Go Go.RowKit

section
variable {P : Program} {c : Cx} {t : TypeId}

theorem RVs.take {ds : List D} {vs : List Value} (h : RVs c ds vs) (n : Nat) : RVs c (ds.take n) (vs.take n) := by
  refine RVs.of (by simp [h.length]) fun j x u hx hu => ?_
  rw [List.getElem?_take] at hx hu
  split at hx
  · rename_i hj
    rw [if_pos hj] at hu
    obtain ⟨u', h1, h2⟩ := h.get hx
    rw [h1] at hu; cases hu; exact h2
  · cases hx
theorem RVs.drop {ds : List D} {vs : List Value} (h : RVs c ds vs) (n : Nat) : RVs c (ds.drop n) (vs.drop n) := by
  refine RVs.of (by simp [h.length]) fun j x u hx hu => ?_
  rw [List.getElem?_drop] at hx hu
  obtain ⟨u', h1, h2⟩ := h.get hx
  rw [h1] at hu; cases hu; exact h2

theorem run_partAgg {s off : Nat} (ha : aggT P t = some true) (hs : szT P t = some s) (vs : Array Value) (w : World) :
    (part t vs off).run P w = .ok (.agg (vs.extract off (off + s))) w := by
  simp [part, run_isAgg ha, run_sizeOf hs]
theorem run_partOne {off : Nat} {u : Value} (ha : aggT P t = some false) (vs : Array Value) (w : World) (h : vs[off]? = some u) :
    (part t vs off).run P w = .ok u w := by
  simp [part, run_isAgg ha, h]
theorem run_part {off : Nat} {cs : List D} {d : D} {vs : Array Value} (hr : RVs c cs vs.toList) (h : partD P t cs off = some d) :
    ∃ u, (part t vs off).run P c.w = .ok u c.w ∧ RV c d u := by
  unfold partD at h
  split at h
  · rename_i s ha hs
    split at h
    · simp only [Option.some.injEq] at h; subst h
      refine ⟨_, run_partAgg ha hs vs c.w, .agg ?_⟩
      rw [Array.toList_extract, List.extract_eq_take_drop]
      simpa using (hr.drop off).take s
    · cases h
  · rename_i ha
    obtain ⟨u, h1, h2⟩ := hr.get h
    exact ⟨u, run_partOne ha vs c.w (by simpa using h1), h2⟩
  · cases h

theorem run_field {f : Nat} {x d : D} {v : Value} (hx : RV c x v) (h : fieldD P t f x = some d) : ∃ u, (Instr.field t v f).run P c.w = .ok u c.w ∧ RV c d u := by
  unfold fieldD at h
  split at h
  · rename_i fd cs hf
    obtain ⟨vs, rfl, hr⟩ := hx.agg'
    obtain ⟨u, h1, h2⟩ := run_part hr h
    refine ⟨u, ?_, h2⟩
    unfold fieldT at hf
    split at hf
    · rename_i fs hu
      simp [Instr.field, run_und hu, hf, asAgg, h1]
    · cases hf
  · cases h

theorem run_fieldAddr {f : Nat} {x d : D} {v : Value} (hx : RV c x v) (h : fieldAddrD P t f x = some d) :
    ∃ u, (Instr.fieldAt t v f).run P c.w = .ok u c.w ∧ RV c d u := by
  unfold fieldAddrD at h
  split at h
  · rename_i fd hf
    split at h
    · rename_i s hs
      split at h
      · cases h
      · rename_i h0
        unfold fieldT at hf
        split at hf
        · rename_i fs hu
          split at h
          · rename_i id ver i j
            simp only [Option.some.injEq] at h; subst h
            cases hx with
            | cl hx => cases hx
            | ptrs ho hv => exact ⟨_, by simp [Instr.fieldAt, run_und hu, hf, Instr.sureAddr, fieldPlace, run_sizeOf hs, h0]; rfl, .ptrs ho hv⟩
            | ptr ho hv hm ha =>
              rename_i b base a o
              subst ha
              refine ⟨.pointer (some ⟨b, base + i * o.esz + (j + fd.offset), none⟩), ?_, .ptr ho hv hm rfl⟩
              simp [Instr.fieldAt, run_und hu, hf, Instr.sureAddr, fieldPlace, run_sizeOf hs, h0, add_addr, Nat.add_assoc]
          · rename_i z xs i j
            simp only [Option.some.injEq] at h; subst h
            cases hx with
            | cl hx =>
              cases hx with
              | fptr hrow hz =>
                rename_i b off
                refine ⟨.pointer (some ⟨b, off + i * z + (j + fd.offset), none⟩), ?_, .cl (.fptr hrow hz)⟩
                simp [Instr.fieldAt, run_und hu, hf, Instr.sureAddr, fieldPlace, run_sizeOf hs, h0, add_addr, Nat.add_assoc]
          · cases h
        · cases hf
    · cases h
  · cases h

theorem idxD_int {n : Nat} {ix : D} {q : Nat} {v : Value} (h : idxD n ix = some q) (hx : RV c ix v) : ∃ k i, v = .int k i ∧ 0 ≤ i ∧ i < n ∧ i.toNat = q := by
  unfold idxD at h
  split at h
  · rename_i k i
    split at h
    · rename_i hc
      simp only [Option.some.injEq] at h
      exact ⟨k, i, hx.int, hc.1, hc.2, h⟩
    · cases h
  · cases h

theorem run_indexAddr {x ix d : D} {v iv : Value} (hx : RV c x v) (hi : RV c ix iv) (h : indexAddrD P t x ix = some d) :
    ∃ u, (Instr.indexAt t v iv).run P c.w = .ok u c.w ∧ RV c d u := by
  unfold indexAddrD at h
  split at h
  · rename_i e z id ver off len hu
    split at h
    · rename_i hs
      simp only [Option.map_eq_some_iff] at h
      obtain ⟨q, h, rfl⟩ := h
      obtain ⟨k, i, rfl, h0, h1, rfl⟩ := idxD_int h hi
      cases hx with
      | cl hx => cases hx
      | owns ho hv hc => exact ⟨_, by simp [Instr.indexAt, asIntOf, run_und hu, h0, h1, run_sizeOf hs]; rfl, .ptrs ho hv⟩
      | own ho hv hz hm hl hc hb ha =>
        rename_i cap b base a o
        have hcap : cap ≠ 0 := by omega
        obtain rfl := ha hcap
        refine ⟨.pointer (some ⟨b, base + (off + i.toNat) * o.esz + 0, none⟩), ?_, .ptr ho hv hm rfl⟩
        simp [Instr.indexAt, asIntOf, run_und hu, h0, h1, run_sizeOf hs, add_addr, hz, Nat.add_mul, Nat.add_assoc]
    · cases h
  · rename_i e z xs tg hu
    split at h
    · rename_i hs
      simp only [Option.map_eq_some_iff] at h
      obtain ⟨q, h, rfl⟩ := h
      obtain ⟨k, i, rfl, h0, h1, rfl⟩ := idxD_int h hi
      obtain ⟨hz, b, off, cap, a, rfl, hrow, hc, ht, ha⟩ := hx.sl'
      have hcap : cap ≠ 0 := by omega
      obtain rfl := ha hcap
      refine ⟨.pointer (some ⟨b, off + i.toNat * z + 0, none⟩), ?_, .cl (.fptr hrow hz)⟩
      simp [Instr.indexAt, asIntOf, run_und hu, h0, h1, run_sizeOf hs, add_addr]
    · cases h
  · rename_i n e id ver i j hu
    split at h
    · rename_i s hs
      simp only [Option.map_eq_some_iff] at h
      obtain ⟨q, h, rfl⟩ := h
      obtain ⟨k, q, rfl, h0, h1, rfl⟩ := idxD_int h hi
      cases hx with
      | cl hx => cases hx
      | ptrs ho hv => exact ⟨_, by simp [Instr.indexAt, asIntOf, run_und hu, h0, h1, run_sizeOf hs, Instr.sureAddr]; rfl, .ptrs ho hv⟩
      | ptr ho hv hm ha =>
        rename_i b base a o
        subst ha
        refine ⟨.pointer (some ⟨b, base + i * o.esz + (j + q.toNat * s), none⟩), ?_, .ptr ho hv hm rfl⟩
        simp [Instr.indexAt, asIntOf, run_und hu, h0, h1, run_sizeOf hs, add_addr, Instr.sureAddr, Nat.add_assoc]
    · cases h
  · rename_i n e z xs i j hu
    split at h
    · rename_i s hs
      simp only [Option.map_eq_some_iff] at h
      obtain ⟨q, h, rfl⟩ := h
      obtain ⟨k, q, rfl, h0, h1, rfl⟩ := idxD_int h hi
      cases hx with
      | cl hx =>
        cases hx with
        | fptr hrow hz =>
          rename_i b off
          refine ⟨.pointer (some ⟨b, off + i * z + (j + q.toNat * s), none⟩), ?_, .cl (.fptr hrow hz)⟩
          simp [Instr.indexAt, asIntOf, run_und hu, h0, h1, run_sizeOf hs, add_addr, Instr.sureAddr, Nat.add_assoc]
    · cases h
  · cases h

theorem run_index {x ix d : D} {v iv : Value} (hx : RV c x v) (hi : RV c ix iv) (h : indexD P t x ix = some d) :
    ∃ u, (Instr.index t v iv).run P c.w = .ok u c.w ∧ RV c d u := by
  unfold indexD at h
  split at h
  · rename_i n e cs hu
    split at h
    · rename_i s q hs hq
      obtain ⟨k, i, rfl, h0, h1, rfl⟩ := idxD_int hq hi
      obtain ⟨vs, rfl, hr⟩ := hx.agg'
      obtain ⟨u, h2, h3⟩ := run_part hr h
      exact ⟨u, by simp [Instr.index, asIntOf, run_und hu, h0, h1, run_sizeOf hs, h2], h3⟩
    · cases h
  · rename_i s hu
    split at h
    · rename_i q hq
      obtain ⟨k, i, rfl, h0, h1, rfl⟩ := idxD_int hq hi
      obtain rfl := hx.str
      split at h
      · rename_i b hb
        simp only [Option.some.injEq] at h; subst h
        exact ⟨.int .u8 b.toNat, by simp [Instr.index, asIntOf, run_und hu, h0, hb], .cl (.int _ _)⟩
      · cases h
    · cases h
  · cases h

theorem run_extract {ds : List D} {d : D} {v : Value} {i : Nat} (hx : RV c (.tup ds) v) (h : ds[i]? = some d) : ∃ u, (Instr.extract v i).run P c.w = .ok u c.w ∧ RV c d u := by
  obtain ⟨vs, rfl, hr⟩ := hx.tup'
  obtain ⟨u, h1, h2⟩ := hr.get h
  exact ⟨u, by simp only [Array.getElem?_toList] at h1; simp [Instr.extract, h1], h2⟩

/-! slicing -/
def ORel (c : Cx) : Option D → Option Value → Prop
  | none, none => True
  | some d, some v => RV c d v
  | _, _ => False
theorem bndD_none {n dflt b : Nat} {v : Option Value} (h : bndD n dflt none = some b) (hr : ORel c none v) : v = none ∧ b = dflt := by
  cases v <;> simp_all [bndD, ORel]
theorem bndD_some {n dflt b : Nat} {d : D} {v : Option Value} (h : bndD n dflt (some d) = some b) (hr : ORel c (some d) v) : ∃ k i, v = some (.int k i) ∧ 0 ≤ i ∧ i ≤ n ∧ i.toNat = b := by
  cases v with
  | none => exact hr.elim
  | some v =>
    cases d <;> simp only [bndD, reduceCtorEq] at h
    rename_i k i
    split at h
    · rename_i hc
      simp only [Option.some.injEq] at h
      exact ⟨k, i, by rw [RV.int hr], hc.1, hc.2, h⟩
    · cases h
theorem run_bound {k : IntKind} {i : Int} {y : Nat} {code : BoundsCode} {w : World} (h0 : 0 ≤ i) (h1 : i ≤ y) : (Instr.sliceBound (.int k i) y code).run P w = .ok i.toNat w := by
  simp [Instr.sliceBound, asIntOf, h0, h1]
theorem run_bounds {len cap m b a : Nat} {lo hi mx : Option D} {lv hv mv : Option Value} {w : World} (isSl : Bool) (hc : len ≤ cap) (hm : bndD len len mx = some m) (hb : bndD m len hi = some b)
    (hbl : b ≤ len) (hmh : mx.isSome = true → hi.isSome = true) (ha : bndD b 0 lo = some a) (r1 : ORel c lo lv) (r2 : ORel c hi hv) (r3 : ORel c mx mv) :
    (Instr.sliceBounds isSl len cap lv hv mv).run P w = .ok (a, b, if mx.isSome then m else cap) w ∧ a ≤ b ∧ (mx.isSome = true → b ≤ m ∧ m ≤ len) := by
  have hab : a ≤ b := by
    cases lo with
    | none => have := (bndD_none ha r1).2; omega
    | some d => obtain ⟨k, i, _, h0, h1, h2⟩ := bndD_some ha r1; omega
  cases mx with
  | some dm =>
    obtain ⟨k, i, rfl, h0, h1, rfl⟩ := bndD_some hm r3
    cases hi with
    | none => simp at hmh
    | some dh =>
      obtain ⟨k', i', rfl, h0', h1', rfl⟩ := bndD_some hb r2
      refine ⟨?_, hab, fun _ => by omega⟩
      have e1 := fun (code : BoundsCode) => run_bound (P := P) (w := w) (k := k) (code := code) h0 (show i ≤ ((cap : Nat) : Int) by omega)
      have e2 := fun (code : BoundsCode) => run_bound (P := P) (w := w) (k := k') (code := code) h0' h1'
      cases lo with
      | none =>
        obtain ⟨rfl, rfl⟩ := bndD_none ha r1
        simp [Instr.sliceBounds, e1, e2]
      | some dl =>
        obtain ⟨k2, i2, rfl, h02, h12, rfl⟩ := bndD_some ha r1
        have e3 := fun (code : BoundsCode) => run_bound (P := P) (w := w) (k := k2) (code := code) h02 h12
        simp [Instr.sliceBounds, e1, e2, e3]
  | none =>
    obtain ⟨rfl, rfl⟩ := bndD_none hm r3
    cases hi with
    | none =>
      obtain ⟨rfl, rfl⟩ := bndD_none hb r2
      cases lo with
      | none =>
        obtain ⟨rfl, rfl⟩ := bndD_none ha r1
        exact ⟨by simp [Instr.sliceBounds], hab, by simp⟩
      | some dl =>
        obtain ⟨k2, i2, rfl, h02, h12, rfl⟩ := bndD_some ha r1
        have e3 := fun (code : BoundsCode) => run_bound (P := P) (w := w) (k := k2) (code := code) h02 h12
        exact ⟨by simp [Instr.sliceBounds, e3], hab, by simp⟩
    | some dh =>
      obtain ⟨k', i', rfl, h0', h1', rfl⟩ := bndD_some hb r2
      have e2 := fun (code : BoundsCode) => run_bound (P := P) (w := w) (k := k') (code := code) h0' (show i' ≤ ((cap : Nat) : Int) by omega)
      cases lo with
      | none =>
        obtain ⟨rfl, rfl⟩ := bndD_none ha r1
        exact ⟨by simp [Instr.sliceBounds, e2], hab, by simp⟩
      | some dl =>
        obtain ⟨k2, i2, rfl, h02, h12, rfl⟩ := bndD_some ha r1
        have e3 := fun (code : BoundsCode) => run_bound (P := P) (w := w) (k := k2) (code := code) h02 h12
        exact ⟨by simp [Instr.sliceBounds, e2, e3], hab, by simp⟩

theorem bndD_le {n dflt b : Nat} {x : Option D} (h : bndD n dflt x = some b) (hd : dflt ≤ n) : b ≤ n := by
  unfold bndD at h
  split at h
  · simp only [Option.some.injEq] at h; omega
  · split at h
    · simp only [Option.some.injEq] at h; omega
    · cases h
  · cases h
/-- slicing a string or a slice: memory stays -/
theorem run_slice {h h' : List Ob} {x d : D} {v : Value} {lo hi mx : Option D} {lv hv mv : Option Value}
    (hx : RV c x v) (r1 : ORel c lo lv) (r2 : ORel c hi hv) (r3 : ORel c mx mv) (hne : ∀ n e, P.underlying t ≠ some (.array n e)) (hs : sliceD P h t x lo hi mx = some (d, h')) :
    h' = h ∧ ∃ u, (Instr.sliceAt t v lv hv mv).run P c.w = .ok u c.w ∧ RV c d u := by
  unfold sliceD at hs
  split at hs
  · rename_i s hu
    obtain rfl := hx.str
    split at hs
    · rename_i b hb
      split at hs
      · rename_i a ha
        simp only [Option.some.injEq, Prod.mk.injEq] at hs
        obtain ⟨rfl, rfl⟩ := hs
        have hbl : b ≤ s.size := bndD_le hb (Nat.le_refl _)
        obtain ⟨e1, e2, _⟩ := run_bounds (P := P) (w := c.w) (mx := none) (lo := lo) (hi := hi) (m := s.size) (cap := s.size) (mv := mv) false (Nat.le_refl _) rfl hb hbl (by simp) ha r1 r2 r3
        obtain rfl : mv = none := by cases mv <;> simp_all [ORel]
        exact ⟨rfl, .string (s.extract a b), by simp [Instr.sliceAt, run_und hu, Instr.slice, e1], .cl (.str _)⟩
      · cases hs
    · cases hs
  · rename_i e hu
    obtain rfl := hx.snil
    split at hs
    · rename_i sz m b a hsz hm hb ha
      split at hs
      · rename_i hmh
        simp only [Option.some.injEq, Prod.mk.injEq] at hs
        obtain ⟨rfl, rfl⟩ := hs
        have hm0 : m = 0 := by have := bndD_le hm (Nat.le_refl _); omega
        have hb0 : b = 0 := by have := bndD_le hb (Nat.le_refl _); omega
        have ha0 : a = 0 := by have := bndD_le ha (Nat.le_refl _); omega
        subst hm0 hb0 ha0
        obtain ⟨e1, e2, e3⟩ := run_bounds (P := P) (w := c.w) (mx := mx) (lo := lo) (hi := hi) (cap := 0) true (Nat.le_refl _) hm hb (Nat.le_refl _) hmh ha r1 r2 r3
        refine ⟨rfl, .slice none 0 0, ?_, .cl .snil⟩
        simp [Instr.sliceAt, run_und hu, Instr.slice, e1, run_sizeOf hsz]
      · cases hs
    · cases hs
  · rename_i e z xs tg hu
    split at hs
    · rename_i m hm
      split at hs
      · rename_i b hb
        split at hs
        · rename_i hc
          split at hs
          · rename_i a ha
            simp only [Option.some.injEq, Prod.mk.injEq] at hs
            obtain ⟨rfl, rfl⟩ := hs
            obtain ⟨hz, bl, off, cap, ad, rfl, hrow, hcap, ht, had⟩ := hx.sl'
            obtain ⟨e1, e2, e3⟩ := run_bounds (P := P) (w := c.w) (mx := mx) (lo := lo) (hi := hi) true hcap hm hb hc.2.1 hc.2.2 ha r1 r2 r3
            have hlen : ((xs.take b).drop a).length = b - a := by simp; omega
            refine ⟨rfl, .slice (if (if mx.isSome = true then m else cap) = a then some ad else (some ad).map (·.add (a * z))) (b - a) ((if mx.isSome = true then m else cap) - a), ?_, ?_⟩
            · simp [Instr.sliceAt, run_und hu, Instr.slice, e1, run_sizeOf hc.1]
            · rw [← hlen]
              have hmm : b ≤ (if mx.isSome = true then m else cap) := by split <;> first | exact (e3 (by assumption)).1 | omega
              have hmc : (if mx.isSome = true then m else cap) ≤ cap := by split <;> first | (have := (e3 (by assumption)).2; omega) | omega
              by_cases hq : (if mx.isSome = true then m else cap) = a
              · rw [if_pos hq]
                exact .cl (.sl ((hrow.take b).drop a) hz (by rw [hlen]; omega) (fun _ => by rw [hlen]; omega) (fun h => absurd (by omega) h))
              · rw [if_neg hq]
                simp only [Option.map_some]
                refine .cl (.sl ((hrow.take b).drop a) hz (by rw [hlen]; omega) (fun htt => ?_) (fun _ => by rw [had (by omega), add_addr]))
                rw [hlen]
                by_cases hms : mx.isSome = true
                · rw [if_pos hms] at htt ⊢
                  simp only [beq_iff_eq] at htt; omega
                · rw [if_neg hms] at htt ⊢
                  simp only [Bool.and_eq_true, beq_iff_eq] at htt
                  have := ht htt.1
                  omega
          · cases hs
        · cases hs
      · cases hs
    · cases hs
  · rename_i e z id ver off len hu
    split at hs
    · rename_i m hm
      split at hs
      · rename_i b hb
        split at hs
        · rename_i hc
          split at hs
          · rename_i a ha
            simp only [Option.some.injEq, Prod.mk.injEq] at hs
            obtain ⟨rfl, rfl⟩ := hs
            refine ⟨rfl, ?_⟩
            cases hx with
            | cl hx => cases hx
            | owns ho hv hcap =>
              rename_i cap ad o
              obtain ⟨e1, e2, e3⟩ := run_bounds (P := P) (w := c.w) (mx := mx) (lo := lo) (hi := hi) true hcap hm hb hc.2.1 hc.2.2 ha r1 r2 r3
              have hmm : b ≤ (if mx.isSome = true then m else cap) := by split <;> first | exact (e3 (by assumption)).1 | omega
              by_cases hq : (if mx.isSome = true then m else cap) = a
              · exact ⟨_, by simp only [Instr.sliceAt, Sem.run_bind, run_und hu, Result.andThen_ok, Instr.slice, e1, run_sizeOf hc.1]; rw [if_pos hq]; rfl, .owns ho hv (by omega)⟩
              · exact ⟨_, by simp only [Instr.sliceAt, Sem.run_bind, run_und hu, Result.andThen_ok, Instr.slice, e1, run_sizeOf hc.1]; rw [if_neg hq]; rfl, .owns ho hv (by omega)⟩
            | own ho hv hz hm2 hl hcap hbb had =>
              rename_i cap bl base ad o
              obtain ⟨e1, e2, e3⟩ := run_bounds (P := P) (w := c.w) (mx := mx) (lo := lo) (hi := hi) true hcap hm hb hc.2.1 hc.2.2 ha r1 r2 r3
              have hmm : b ≤ (if mx.isSome = true then m else cap) := by split <;> first | exact (e3 (by assumption)).1 | omega
              have hmc : (if mx.isSome = true then m else cap) ≤ cap := by split <;> first | (have := (e3 (by assumption)).2; omega) | omega
              have hbb' : base + (off + a + ((if mx.isSome = true then m else cap) - a)) * o.esz ≤ bsz c.w bl := by
                refine Nat.le_trans ?_ hbb
                refine Nat.add_le_add_left (Nat.mul_le_mul_right _ (by omega)) _
              by_cases hq : (if mx.isSome = true then m else cap) = a
              · exact ⟨_, by simp only [Instr.sliceAt, Sem.run_bind, run_und hu, Result.andThen_ok, Instr.slice, e1, run_sizeOf hc.1]; rw [if_pos hq]; rfl,
                  .own ho hv hz hm2 (by omega) (by omega) hbb' (fun h => absurd (by omega) h)⟩
              · exact ⟨_, by simp only [Instr.sliceAt, Sem.run_bind, run_und hu, Result.andThen_ok, Instr.slice, e1, run_sizeOf hc.1]; rw [if_neg hq]; rfl,
                  .own ho hv hz hm2 (by omega) (by omega) hbb' (fun _ => by rw [had (by omega)]; show (⟨bl, base + off * o.esz, none⟩ : Addr).add (a * z) = _; rw [add_addr, hz, Nat.add_mul, Nat.add_assoc])⟩
          · cases hs
        · cases hs
      · cases hs
    · cases hs
  · rename_i n e id ver hu
    exact absurd hu (hne _ _)
  · cases hs
end
end Go.Proofs.YtlpadffinfijgaaW.Vm
