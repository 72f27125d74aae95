/- What leaves a function, what is shared, and calls: the plain machine's are the model's. No conditions. -/
import Derived.Test.YtlpadffinfijgaaVmOpsF
set_option linter.unusedVariables false
set_option linter.unusedSimpArgs false
namespace Go.Proofs.YtlpadffinfijgaaW.Vm
open Go Go.RowKit

section
variable {c : Cx}
theorem one_cells' {d : D} (h : d.one = true) : d.cells = [d] := by cases d <;> first | rfl | (cases h; done)
mutual
theorem clean_rc : ∀ {d : D} {v : Value}, RV c d v → clean d = true → RC c.w (live c) d v
  | _, _, .und _, h => by simp [clean] at h
  | _, _, .cl h, _ => h
  | _, _, .ptrs .., h => by simp [clean] at h
  | _, _, .ptr .., h => by simp [clean] at h
  | _, _, .owns .., h => by simp [clean] at h
  | _, _, .own .., h => by simp [clean] at h
  | _, _, .agg h, hc => .agg (cleans_rc h (by simpa [clean] using hc))
  | _, _, .tup h, hc => .tup (cleans_rc h (by simpa [clean] using hc))
  | _, _, .clo h1 h2, hc => by
    simp only [clean, Bool.and_eq_true] at hc
    exact .clo (cleans_rc h1 hc.1) (cleans_rc h2 hc.2)
  | _, _, .ifc h, hc => .ifc (clean_rc h (by simpa [clean] using hc))
theorem cleans_rc : ∀ {ds : List D} {vs : List Value}, RVs c ds vs → cleans ds = true → RCs c.w (live c) ds vs
  | _, _, .nil, _ => .nil
  | _, _, .cons h r, hc => by
    simp only [cleans, Bool.and_eq_true] at hc
    exact .cons (clean_rc h hc.1) (cleans_rc r hc.2)
end
mutual
theorem flat_rc {w : World} {L L' : Nat → Nat → Prop} : ∀ {d : D} {v : Value}, RC w L d v → flat d = true → RC w L' d v
  | _, _, .int k n, _ => .int k n
  | _, _, .bool b, _ => .bool b
  | _, _, .str s, _ => .str s
  | _, _, .flt k b, _ => .flt k b
  | _, _, .cpx k x y, _ => .cpx k x y
  | _, _, .nil, _ => .nil
  | _, _, .snil, _ => .snil
  | _, _, .nilf, _ => .nilf
  | _, _, .nili, _ => .nili
  | _, _, .agg h, hf => .agg (flats_rc h (by simpa [flat] using hf))
  | _, _, .tup h, hf => .tup (flats_rc h (by simpa [flat] using hf))
  | _, _, .fptr .., hf => by simp [flat] at hf
  | _, _, .sl .., hf => by simp [flat] at hf
  | _, _, .clo .., hf => by simp [flat] at hf
  | _, _, .ifc .., hf => by simp [flat] at hf
theorem flats_rc {w : World} {L L' : Nat → Nat → Prop} : ∀ {ds : List D} {vs : List Value}, RCs w L ds vs → flats ds = true → RCs w L' ds vs
  | _, _, .nil, _ => .nil
  | _, _, .cons h r, hf => by
    simp only [flats, Bool.and_eq_true] at hf
    exact .cons (flat_rc h hf.1) (flats_rc r hf.2)
end

/-- what may leave: these rows are not L's -/
def Leaves (c : Cx) (h : List Ob) (L : Nat → Nat → Prop) (ms : List (Nat × Nat)) : Prop :=
  ∀ m ∈ ms, ∀ b base o, c.μ m.1 = some (b, base) → h[m.1]? = some o → ∀ off, off < base + m.2 * o.esz → ¬ L b off
/-- what leaves of elements is what is in memory -/
def InnerOk (c : Cx) (h : List Ob) (L : Nat → Nat → Prop) (inner : List D → Option (List D)) (ms : List D → List (Nat × Nat)) : Prop :=
  ∀ xs ys, inner xs = some ys → Leaves c h L (ms xs) → ys.length = xs.length ∧ ∀ (i : Nat) x, xs[i]? = some x → (∀ ds, x ≠ .tup ds) → (∀ y ∈ x.cells, y.one = true) →
    ∃ x', ys[i]? = some x' ∧ x'.cells.length = x.cells.length ∧ (∀ ds, x' ≠ .tup ds) ∧ ∀ (j : Nat) y u, x.cells[j]? = some y → RV c y u → ∃ y', x'.cells[j]? = some y' ∧ y'.one = true ∧ RC c.w L y' u
theorem own_rc {h : List Ob} (hr : HR c) (ag : Ag c h) {L : Nat → Nat → Prop} {inner ms} (hin : InnerOk c h L inner ms) {z id ver off len : Nat} {v : Value} {xs ys : List D} (hv : RV c (.own z id ver off len) v)
    (he : elsOf h (.own z id ver off len) = some xs) (hy : inner xs = some ys) (hl : Leaves c h L ((id, off + len) :: ms xs)) : RC c.w L (.sl z ys false) v := by
  obtain ⟨il, ih⟩ := hin xs ys hy (fun m hm => hl m (List.mem_cons_of_mem _ hm))
  simp only [elsOf] at he
  split at he
  · rename_i o ho
    split at he
    · rename_i hcond
      simp only [Option.some.injEq] at he
      have hid : id < h.length := (List.getElem?_eq_some_iff.1 ho).1
      obtain ⟨hz, hlen, b, base, cap, a, hm, rfl, hcap, hb, ha⟩ := hv.own' ((ag id hid).trans ho) hcond.1
      obtain ⟨o2, cells, el, k1, k2, k3, k4, k5⟩ := hr.ob _ _ _ hm
      rw [ag id hid, ho] at k1
      cases k1
      have hxl : xs.length = len := by rw [← he]; simp; omega
      have hyl : ys.length = len := by omega
      rw [← hyl]
      refine .sl (b := b) (off := base + off * o.esz) (RRow.of fun i x' hx' => ?_) (by omega) (by omega) (by simp) (fun h => ha h)
      have hi : i < xs.length := by have := (List.getElem?_eq_some_iff.1 hx').1; omega
      have hx : xs[i]? = some xs[i] := List.getElem?_eq_getElem hi
      generalize xs[i] = x at hx
      have hx2 := hx
      rw [← he, List.getElem?_take] at hx2
      split at hx2
      · rename_i hi
        rw [List.getElem?_drop] at hx2
        obtain ⟨n1, n2, n3⟩ := k5 _ x hx2
        obtain ⟨x2, m1, m2, m3, m4⟩ := ih i x hx n2 (fun y hy => by
          obtain ⟨j, hj⟩ := List.mem_iff_getElem?.1 hy
          exact (n3 j y hj).1)
        rw [hx'] at m1
        cases m1
        refine ⟨by rw [m2, n1, hz], m3, RCells.of fun j y' hy' => ?_⟩
        have hj : j < x.cells.length := by have := (List.getElem?_eq_some_iff.1 hy').1; omega
        obtain ⟨n4, u, n5, n6⟩ := n3 j _ (List.getElem?_eq_getElem hj)
        obtain ⟨y2, p1, p2, p3⟩ := m4 j _ u (List.getElem?_eq_getElem hj) n6
        rw [hy'] at p1
        cases p1
        have hj' : j < o.esz := by omega
        have e1 : base + off * o.esz + i * z + j = base + (off + i) * o.esz + j := by rw [hz, Nat.add_mul]; omega
        rw [e1]
        refine ⟨p2, u, n5, ?_, p3⟩
        refine hl (id, off + len) (by simp) b base o hm ho _ ?_
        have : (off + i) * o.esz + o.esz ≤ (off + len) * o.esz := by rw [← Nat.succ_mul]; exact Nat.mul_le_mul_right _ (by omega)
        show _ < base + (off + len) * o.esz
        omega
      · cases hx2
    · cases he
  · cases he
section
variable {h : List Ob} {L : Nat → Nat → Prop} {inner : List D → Option (List D)} {ms : List D → List (Nat × Nat)}
mutual
theorem expG_rc (hr : HR c) (ag : Ag c h) (hL : ∀ b off, ¬ live c b off → ¬ L b off) (hin : InnerOk c h L inner ms) :
    ∀ (d : D) {v : Value} {r : D}, RV c d v → expG inner h d = some r → clean r = true → Leaves c h L (marksG ms h d) → RC c.w L r v
  | .agg cs, v, r, hv, he, hc, hm => by
    simp only [expG, Option.map_eq_some_iff] at he
    obtain ⟨cs', he, rfl⟩ := he
    obtain ⟨vs, rfl, hvs⟩ := hv.agg'
    exact .agg (expsG_rc hr ag hL hin cs hvs he (by simpa [clean] using hc) (by simpa [marksG] using hm))
  | .tup cs, v, r, hv, he, hc, hm => by
    simp only [expG, Option.map_eq_some_iff] at he
    obtain ⟨cs', he, rfl⟩ := he
    obtain ⟨vs, rfl, hvs⟩ := hv.tup'
    exact .tup (expsG_rc hr ag hL hin cs hvs he (by simpa [clean] using hc) (by simpa [marksG] using hm))
  | .clo f a b, v, r, hv, he, hc, hm => by
    simp only [expG] at he
    split at he
    · rename_i a' b' h1 h2
      simp only [Option.some.injEq] at he; subst he
      obtain ⟨va, vb, rfl, hva, hvb⟩ := hv.clo'
      simp only [clean, Bool.and_eq_true] at hc
      simp only [marksG] at hm
      exact .clo (expsG_rc hr ag hL hin a hva h1 hc.1 fun m hm' => hm m (List.mem_append_left _ hm')) (expsG_rc hr ag hL hin b hvb h2 hc.2 fun m hm' => hm m (List.mem_append_right _ hm'))
    · cases he
  | .ifc t d, v, r, hv, he, hc, hm => by
    simp only [expG, Option.map_eq_some_iff] at he
    obtain ⟨r', he, rfl⟩ := he
    have hv' : ∃ u, v = .iface t u ∧ RV c d u := by
      cases hv with
      | cl h => cases h with | ifc h => exact ⟨_, rfl, .cl h⟩
      | ifc h => exact ⟨_, rfl, h⟩
    obtain ⟨u, rfl, hu⟩ := hv'
    exact .ifc (expG_rc hr ag hL hin d hu he (by simpa [clean] using hc) (by simpa [marksG] using hm))
  | .own z id ver off len, v, r, hv, he, hc, hm => by
    simp only [expG] at he
    split at he
    · rename_i xs hx
      split at he
      · rename_i ys hy
        simp only [Option.some.injEq] at he; subst he
        simp only [marksG, hx] at hm
        exact own_rc hr ag hin hv hx hy hm
      · cases he
    · cases he
  | .ptr .., v, r, hv, he, hc, hm => by simp [expG] at he
  | .und, v, r, hv, he, hc, hm => by simp [expG] at he
  | .int .., v, r, hv, he, hc, hm => by simp only [expG, Option.some.injEq] at he; subst he; exact (clean_rc hv hc).keep fun b off u h1 h2 => ⟨h1, hL _ _ h2⟩
  | .bool .., v, r, hv, he, hc, hm => by simp only [expG, Option.some.injEq] at he; subst he; exact (clean_rc hv hc).keep fun b off u h1 h2 => ⟨h1, hL _ _ h2⟩
  | .str .., v, r, hv, he, hc, hm => by simp only [expG, Option.some.injEq] at he; subst he; exact (clean_rc hv hc).keep fun b off u h1 h2 => ⟨h1, hL _ _ h2⟩
  | .flt .., v, r, hv, he, hc, hm => by simp only [expG, Option.some.injEq] at he; subst he; exact (clean_rc hv hc).keep fun b off u h1 h2 => ⟨h1, hL _ _ h2⟩
  | .cpx .., v, r, hv, he, hc, hm => by simp only [expG, Option.some.injEq] at he; subst he; exact (clean_rc hv hc).keep fun b off u h1 h2 => ⟨h1, hL _ _ h2⟩
  | .nil, v, r, hv, he, hc, hm => by simp only [expG, Option.some.injEq] at he; subst he; exact (clean_rc hv hc).keep fun b off u h1 h2 => ⟨h1, hL _ _ h2⟩
  | .snil, v, r, hv, he, hc, hm => by simp only [expG, Option.some.injEq] at he; subst he; exact (clean_rc hv hc).keep fun b off u h1 h2 => ⟨h1, hL _ _ h2⟩
  | .nilf, v, r, hv, he, hc, hm => by simp only [expG, Option.some.injEq] at he; subst he; exact (clean_rc hv hc).keep fun b off u h1 h2 => ⟨h1, hL _ _ h2⟩
  | .nili, v, r, hv, he, hc, hm => by simp only [expG, Option.some.injEq] at he; subst he; exact (clean_rc hv hc).keep fun b off u h1 h2 => ⟨h1, hL _ _ h2⟩
  | .fptr .., v, r, hv, he, hc, hm => by simp only [expG, Option.some.injEq] at he; subst he; exact (clean_rc hv hc).keep fun b off u h1 h2 => ⟨h1, hL _ _ h2⟩
  | .sl .., v, r, hv, he, hc, hm => by
    simp only [expG, Option.some.injEq] at he; subst he
    have hv := (clean_rc hv (by simp [clean])).keep (L' := L) (w' := c.w) fun b off u h1 h2 => ⟨h1, hL _ _ h2⟩
    cases hv with | sl h hz hc ht ha => exact .sl h hz hc (by simp) ha
theorem expsG_rc (hr : HR c) (ag : Ag c h) (hL : ∀ b off, ¬ live c b off → ¬ L b off) (hin : InnerOk c h L inner ms) :
    ∀ (ds : List D) {vs : List Value} {rs : List D}, RVs c ds vs → expsG inner h ds = some rs → cleans rs = true → Leaves c h L (markssG ms h ds) → RCs c.w L rs vs
  | [], vs, rs, hv, he, hc, hm => by
    simp only [expsG, Option.some.injEq] at he; subst he
    cases hv; exact .nil
  | d :: ds, vs, rs, hv, he, hc, hm => by
    simp only [expsG] at he
    split at he
    · rename_i d' ds' h1 h2
      simp only [Option.some.injEq] at he; subst he
      simp only [cleans, Bool.and_eq_true] at hc
      simp only [markssG] at hm
      cases hv with
      | cons hv hvs =>
        exact .cons (expG_rc hr ag hL hin d hv h1 hc.1 fun m hm' => hm m (List.mem_append_left _ hm')) (expsG_rc hr ag hL hin ds hvs h2 hc.2 fun m hm' => hm m (List.mem_append_right _ hm'))
    · cases he
end
theorem expsG_get : ∀ {ds rs : List D}, expsG inner h ds = some rs → rs.length = ds.length ∧ ∀ (i : Nat) d, ds[i]? = some d → ∃ r, rs[i]? = some r ∧ expG inner h d = some r
  | [], rs, he => by simp only [expsG, Option.some.injEq] at he; subst he; simp
  | d :: ds, rs, he => by
    simp only [expsG] at he
    split at he
    · rename_i d' ds' h1 h2
      simp only [Option.some.injEq] at he; subst he
      obtain ⟨k1, k2⟩ := expsG_get h2
      refine ⟨by simp [k1], fun i x hx => ?_⟩
      cases i with
      | zero => simp only [List.getElem?_cons_zero, Option.some.injEq] at hx; subst hx; exact ⟨d', by simp, h1⟩
      | succ i => simpa using k2 i x (by simpa using hx)
    · cases he
theorem expG_one {d r : D} (h1 : d.one = true) (he : expG inner h d = some r) : r.one = true ∧ r.cells = [r] := by
  cases d <;> simp only [D.one, Bool.false_eq_true] at h1 <;> simp only [expG] at he <;> first
    | (cases he; exact ⟨rfl, rfl⟩)
    | ((repeat' split at he) <;> first | (cases he; done) | (cases he; exact ⟨rfl, rfl⟩))
    | (simp only [Option.map_eq_some_iff] at he; obtain ⟨_, _, rfl⟩ := he; exact ⟨rfl, rfl⟩)
theorem cleans_mem : ∀ {xs : List D}, cleans xs = true → ∀ x ∈ xs, clean x = true
  | [], _, x, hx => by simp at hx
  | y :: ys, hc, x, hx => by
    simp only [cleans, Bool.and_eq_true] at hc
    rcases List.mem_cons.1 hx with rfl | hx
    · exact hc.1
    · exact cleans_mem hc.2 x hx
theorem cells_clean {d : D} (hd : clean d = true) : ∀ y ∈ d.cells, clean y = true := by
  intro y hy
  cases d <;> simp only [D.cells, List.mem_singleton] at hy <;> first
    | (subst hy; exact hd)
    | (simp only [clean] at hd; exact cleans_mem hd y hy)
theorem inner_clean (hL : ∀ b off, ¬ live c b off → ¬ L b off) {xs : List D} (hc : cleans xs = true) : xs.length = xs.length ∧ ∀ (i : Nat) x, xs[i]? = some x → (∀ ds, x ≠ .tup ds) → (∀ y ∈ x.cells, y.one = true) →
    ∃ x', xs[i]? = some x' ∧ x'.cells.length = x.cells.length ∧ (∀ ds, x' ≠ .tup ds) ∧ ∀ (j : Nat) y u, x.cells[j]? = some y → RV c y u → ∃ y', x'.cells[j]? = some y' ∧ y'.one = true ∧ RC c.w L y' u :=
  ⟨rfl, fun i x hx ht h1 => ⟨x, hx, rfl, ht, fun j y u hy hv => ⟨y, hy, h1 y (List.mem_of_getElem? hy), (clean_rc hv (cells_clean (cleans_mem hc x (List.mem_of_getElem? hx)) y (List.mem_of_getElem? hy))).keep fun b off u h1 h2 => ⟨h1, hL _ _ h2⟩⟩⟩⟩
end
theorem mem_marks {inner : List D → List (Nat × Nat)} {h : List Ob} : ∀ {ds : List D} {d : D}, d ∈ ds → ∀ m ∈ marksG inner h d, m ∈ markssG inner h ds
  | [], d, hd, _, _ => by simp at hd
  | x :: ds, d, hd, m, hm => by
    simp only [markssG]
    rcases List.mem_cons.1 hd with rfl | hd
    · exact List.mem_append_left _ hm
    · exact List.mem_append_right _ (mem_marks hd m hm)
theorem expI_ok {h : List Ob} (hr : HR c) (ag : Ag c h) {L : Nat → Nat → Prop} (hL : ∀ b off, ¬ live c b off → ¬ L b off) : ∀ k, InnerOk c h L (expI k h) (marksI k h)
  | 0 => fun xs ys he _ => by
    simp only [expI] at he
    split at he
    · rename_i hc; cases he; exact inner_clean hL hc
    · cases he
  | k + 1 => fun xs ys he hl => by
    simp only [expI] at he
    split at he
    · rename_i hc; cases he; exact inner_clean hL hc
    · rename_i hnc
      simp only [marksI, if_neg hnc] at hl
      split at he
      · rename_i zs hz
        split at he
        · rename_i hcz
          simp only [Option.some.injEq] at he; subst he
          obtain ⟨k1, k2⟩ := expsG_get hz
          refine ⟨k1, fun i x hx ht h1 => ?_⟩
          obtain ⟨x', m1, m2⟩ := k2 i x hx
          have hcx : clean x' = true := cleans_mem hcz x' (List.mem_of_getElem? m1)
          have hlx : Leaves c h L (marksG (marksI k h) h x) := fun m hm => hl m (mem_marks (List.mem_of_getElem? hx) m hm)
          by_cases hag : ∃ cs, x = .agg cs
          · obtain ⟨cs, rfl⟩ := hag
            simp only [expG, Option.map_eq_some_iff] at m2
            obtain ⟨cs', m2, rfl⟩ := m2
            obtain ⟨n1, n2⟩ := expsG_get m2
            refine ⟨_, m1, n1, (by intro ds; simp), fun j y u hy hv => ?_⟩
            obtain ⟨y', p1, p2⟩ := n2 j y hy
            have hy1 := h1 y (List.mem_of_getElem? hy)
            refine ⟨y', p1, (expG_one hy1 p2).1, expG_rc hr ag hL (expI_ok hr ag hL k) y hv p2 ?_ ?_⟩
            · simp only [clean] at hcx; exact cleans_mem hcx y' (List.mem_of_getElem? p1)
            · simp only [marksG] at hlx
              exact fun m hm => hlx m (mem_marks (List.mem_of_getElem? hy) m hm)
          · have hx1 : x.one = true := by
              have hcs : x.cells = [x] := by cases x <;> first | rfl | exact absurd ⟨_, rfl⟩ hag
              exact h1 x (by rw [hcs]; simp)
            have hcs := one_cells' hx1
            obtain ⟨q1, q2⟩ := expG_one hx1 m2
            refine ⟨x', m1, by rw [q2, hcs]; rfl, (by rintro ds rfl; simp [D.one] at q1), fun j y u hy hv => ?_⟩
            rw [hcs] at hy
            cases j with
            | zero =>
              simp only [List.getElem?_cons_zero, Option.some.injEq] at hy; subst hy
              exact ⟨x', by rw [q2]; rfl, q1, expG_rc hr ag hL (expI_ok hr ag hL k) _ hv m2 hcx hlx⟩
            | succ j => simp at hy
        · cases he
      · cases he
theorem exp1_rc {h : List Ob} (hr : HR c) (ag : Ag c h) {L : Nat → Nat → Prop} (hL : ∀ b off, ¬ live c b off → ¬ L b off)
    (d : D) {v : Value} {r : D} (hv : RV c d v) (he : exp1 h d = some r) (hc : clean r = true) (hm : Leaves c h L (marks h d)) : RC c.w L r v :=
  expG_rc hr ag hL (expI_ok hr ag hL 2) d hv he hc hm
theorem exps1_rc {h : List Ob} (hr : HR c) (ag : Ag c h) {L : Nat → Nat → Prop} (hL : ∀ b off, ¬ live c b off → ¬ L b off)
    (ds : List D) {vs : List Value} {rs : List D} (hv : RVs c ds vs) (he : exps1 h ds = some rs) (hc : cleans rs = true) (hm : Leaves c h L (markss h ds)) : RCs c.w L rs vs :=
  expsG_rc hr ag hL (expI_ok hr ag hL 2) ds hv he hc hm

/-! sharing -/
def Mapped (c : Cx) (h : List Ob) (ms : List (Nat × Nat)) : Prop := ∀ m ∈ ms, (∃ o, h[m.1]? = some o) → ∃ x, c.μ m.1 = some x
theorem frzOb_step {h : List Ob} (hr : HR c) (ag : Ag c h) {m : Nat × Nat} (hm : Mapped c h [m]) : ∃ c', c'.w = c.w ∧ Step c h c' (frzOb h m) ∧ c'.μ = c.μ ∧ (∀ o, h[m.1]? = some o → ∃ o' : Ob, (frzOb h m)[m.1]? = some o' ∧ o'.esz = o.esz ∧ m.2 ≤ o'.frz) := by
  unfold frzOb
  cases ho : h[m.1]? with
  | none => exact ⟨c, rfl, .refl hr ag, rfl, by simp⟩
  | some o =>
    obtain ⟨⟨b, base⟩, hx⟩ := hm m (by simp) ⟨o, ho⟩
    have hid : m.1 < h.length := (List.getElem?_eq_some_iff.1 ho).1
    obtain ⟨o2, cells, el, k1, k2, k3, k4, k5⟩ := hr.ob _ _ _ hx
    rw [ag _ hid, ho] at k1
    cases k1
    obtain ⟨h1, h2, h3⟩ := move_cx (o' := { o with frz := max o.frz m.2 }) (base' := base) (b' := b) hr hx ((ag _ hid).trans ho) (w' := c.w) (Nat.le_refl _) rfl rfl rfl (fun _ _ _ => rfl) rfl (fun _ _ h _ => h)
      (.inl ⟨rfl, Nat.add_le_add_left (Nat.mul_le_mul_right _ (Nat.le_max_left _ _)) _⟩) (.inr ⟨rfl, rfl, rfl, rfl, rfl⟩) k2 k3 k4 (fun i d hd => by
        obtain ⟨n1, n2, n3⟩ := k5 i d hd
        refine ⟨n1, n2, fun j x hx => ?_⟩
        obtain ⟨n4, u, n5, n6⟩ := n3 j x hx
        exact ⟨n4, u, by rw [← cell_at k2]; exact n5, n6⟩)
    refine ⟨⟨c.N0, c.L0, fun i => if i = m.1 then some (b, base) else c.μ i, fun i => if i = m.1 then some { o with frz := max o.frz m.2 } else c.hs i, c.w⟩, rfl, ⟨h1, h2, fun i hi => ?_, fun i hi => ?_, h3, by simp, fun i hi hmi => ?_⟩, ?_, fun q hq => ?_⟩
    · simp only [List.length_set] at hi
      simp only []
      by_cases hi' : i = m.1
      · subst hi'; simp [hid]
      · rw [if_neg hi', ag i hi, List.getElem?_set_ne (Ne.symm hi')]
    · simp only [List.length_set] at hi
      exact ⟨if_neg (by omega), if_neg (by omega)⟩
    · simp only []
      rw [if_neg (fun e => by subst e; rw [hx] at hmi; cases hmi)]; exact hmi
    · funext i
      simp only []
      split
      · rename_i hi; rw [hi, hx]
      · rfl
    · cases hq
      exact ⟨{ o with frz := max o.frz m.2 }, by rw [List.getElem?_set_self hid], rfl, Nat.le_max_right _ _⟩
theorem frzOb_keep {h : List Ob} {m : Nat × Nat} {id : Nat} {o : Ob} (ho : h[id]? = some o) : ∃ o' : Ob, (frzOb h m)[id]? = some o' ∧ o'.esz = o.esz ∧ o.frz ≤ o'.frz ∧ o'.ver = o.ver ∧ o'.els = o.els := by
  unfold frzOb
  cases hm : h[m.1]? with
  | none => exact ⟨o, ho, rfl, Nat.le_refl _, rfl, rfl⟩
  | some q =>
    have hid : m.1 < h.length := (List.getElem?_eq_some_iff.1 hm).1
    by_cases hi : m.1 = id
    · subst hi
      rw [hm] at ho; cases ho
      exact ⟨{ o with frz := max o.frz m.2 }, by rw [List.getElem?_set_self hid], rfl, Nat.le_max_left _ _, rfl, rfl⟩
    · exact ⟨o, by rw [List.getElem?_set_ne hi]; exact ho, rfl, Nat.le_refl _, rfl, rfl⟩
theorem frzOb_len (h : List Ob) (m : Nat × Nat) : (frzOb h m).length = h.length := by unfold frzOb; split <;> simp
theorem frzAll_len : ∀ (ms : List (Nat × Nat)) (h : List Ob), (frzAll h ms).length = h.length
  | [], h => rfl
  | m :: ms, h => by simp only [frzAll, List.foldl_cons]; exact (frzAll_len ms (frzOb h m)).trans (frzOb_len h m)
theorem frzAll_step : ∀ (ms : List (Nat × Nat)) {c : Cx} {h : List Ob}, HR c → Ag c h → Mapped c h ms → ∃ c', c'.w = c.w ∧ Step c h c' (frzAll h ms) ∧ c'.μ = c.μ ∧
    (∀ m ∈ ms, ∀ (o : Ob), h[m.1]? = some o → ∃ o' : Ob, (frzAll h ms)[m.1]? = some o' ∧ o'.esz = o.esz ∧ m.2 ≤ o'.frz) ∧ (∀ (id : Nat) (o : Ob), h[id]? = some o → ∃ o' : Ob, (frzAll h ms)[id]? = some o' ∧ o'.esz = o.esz ∧ o.frz ≤ o'.frz)
  | [], c, h, hr, ag, _ => ⟨c, rfl, .refl hr ag, rfl, by simp, fun id o ho => ⟨o, ho, rfl, Nat.le_refl _⟩⟩
  | m :: ms, c, h, hr, ag, hm => by
    obtain ⟨c1, e1, e2, e3, e4⟩ := frzOb_step hr ag (m := m) fun x hx => by
      simp only [List.mem_singleton] at hx; subst hx
      exact hm x (by simp)
    have hm1 : Mapped c1 (frzOb h m) ms := fun x hx ⟨o, ho⟩ => by
      rw [e3]
      have : x.1 < h.length := by rw [← frzOb_len h m]; exact (List.getElem?_eq_some_iff.1 ho).1
      exact hm x (by simp [hx]) ⟨_, List.getElem?_eq_getElem this⟩
    obtain ⟨c2, f1, f2, f3, f4, f5⟩ := frzAll_step ms e2.hr e2.ag hm1
    refine ⟨c2, f1.trans e1, e2.trans f2, f3.trans e3, fun x hx o ho => ?_, fun id o ho => ?_⟩
    · rcases List.mem_cons.1 hx with rfl | hx
      · obtain ⟨o1, g1, g2, g3⟩ := e4 o ho
        obtain ⟨o2, g4, g5, g6⟩ := f5 _ _ g1
        exact ⟨o2, g4, g5.trans g2, Nat.le_trans g3 g6⟩
      · obtain ⟨o1, g1, g2, _, _⟩ := frzOb_keep (m := m) ho
        obtain ⟨o2, g4, g5, g6⟩ := f4 x hx o1 g1
        exact ⟨o2, g4, g5.trans g2, g6⟩
    · obtain ⟨o1, g1, g2, g3, _⟩ := frzOb_keep (m := m) ho
      obtain ⟨o2, g4, g5, g6⟩ := f5 id o1 g1
      exact ⟨o2, g4, g5.trans g2, Nat.le_trans g3 g6⟩
/-- what is shared of elements has a place -/
def InnerM (c : Cx) (h : List Ob) (inner : List D → Option (List D)) (ms : List D → List (Nat × Nat)) : Prop :=
  ∀ xs ys, inner xs = some ys → (∀ (i : Nat) x, xs[i]? = some x → (∀ y ∈ x.cells, y.one = true ∧ ∃ u, RV c y u)) → Mapped c h (ms xs)
section
variable {h : List Ob} {inner : List D → Option (List D)} {ms : List D → List (Nat × Nat)}
mutual
theorem expG_mapped (hr : HR c) (ag : Ag c h) (hin : InnerM c h inner ms) : ∀ (d : D) {v : Value} {r : D}, RV c d v → expG inner h d = some r → Mapped c h (marksG ms h d)
  | .agg cs, v, r, hv, he => by
    simp only [expG, Option.map_eq_some_iff] at he
    obtain ⟨cs', he, rfl⟩ := he
    obtain ⟨vs, rfl, hvs⟩ := hv.agg'
    simpa [marksG] using expsG_mapped hr ag hin cs hvs he
  | .tup cs, v, r, hv, he => by
    simp only [expG, Option.map_eq_some_iff] at he
    obtain ⟨cs', he, rfl⟩ := he
    obtain ⟨vs, rfl, hvs⟩ := hv.tup'
    simpa [marksG] using expsG_mapped hr ag hin cs hvs he
  | .clo f a b, v, r, hv, he => by
    simp only [expG] at he
    split at he
    · rename_i a' b' h1 h2
      obtain ⟨va, vb, rfl, hva, hvb⟩ := hv.clo'
      intro m hm
      simp only [marksG] at hm
      rcases List.mem_append.1 hm with hm | hm
      · exact expsG_mapped hr ag hin a hva h1 m hm
      · exact expsG_mapped hr ag hin b hvb h2 m hm
    · cases he
  | .ifc t d, v, r, hv, he => by
    simp only [expG, Option.map_eq_some_iff] at he
    obtain ⟨r', he, rfl⟩ := he
    have hv' : ∃ u, v = .iface t u ∧ RV c d u := by
      cases hv with
      | cl h => cases h with | ifc h => exact ⟨_, rfl, .cl h⟩
      | ifc h => exact ⟨_, rfl, h⟩
    obtain ⟨u, rfl, hu⟩ := hv'
    simpa [marksG] using expG_mapped hr ag hin d hu he
  | .own z id ver off len, v, r, hv, he => by
    simp only [expG] at he
    split at he
    · rename_i xs hx
      split at he
      · rename_i ys hy
        simp only [marksG, hx]
        simp only [elsOf] at hx
        split at hx
        · rename_i o ho
          split at hx
          · rename_i hcond
            simp only [Option.some.injEq] at hx
            have hid : id < h.length := (List.getElem?_eq_some_iff.1 ho).1
            obtain ⟨_, _, b, base, _, _, hm, _⟩ := hv.own' ((ag id hid).trans ho) hcond.1
            obtain ⟨o2, cells, el, k1, k2, k3, k4, k5⟩ := hr.ob _ _ _ hm
            rw [ag id hid, ho] at k1
            cases k1
            intro m hm'
            rcases List.mem_cons.1 hm' with rfl | hm'
            · exact fun _ => ⟨_, hm⟩
            · refine hin xs ys hy (fun i x hx' y hy' => ?_) m hm'
              rw [← hx, List.getElem?_take] at hx'
              split at hx'
              · rw [List.getElem?_drop] at hx'
                obtain ⟨n1, n2, n3⟩ := k5 _ x hx'
                obtain ⟨j, hj⟩ := List.mem_iff_getElem?.1 hy'
                obtain ⟨n4, u, _, n6⟩ := n3 j y hj
                exact ⟨n4, u, n6⟩
              · cases hx'
          · cases hx
        · cases hx
      · cases he
    · cases he
  | .ptr .., v, r, hv, he => by simp [expG] at he
  | .und, v, r, hv, he => by simp [expG] at he
  | .int .., v, r, hv, he => by intro m hm; simp [marksG] at hm
  | .bool .., v, r, hv, he => by intro m hm; simp [marksG] at hm
  | .str .., v, r, hv, he => by intro m hm; simp [marksG] at hm
  | .flt .., v, r, hv, he => by intro m hm; simp [marksG] at hm
  | .cpx .., v, r, hv, he => by intro m hm; simp [marksG] at hm
  | .nil, v, r, hv, he => by intro m hm; simp [marksG] at hm
  | .snil, v, r, hv, he => by intro m hm; simp [marksG] at hm
  | .nilf, v, r, hv, he => by intro m hm; simp [marksG] at hm
  | .nili, v, r, hv, he => by intro m hm; simp [marksG] at hm
  | .fptr .., v, r, hv, he => by intro m hm; simp [marksG] at hm
  | .sl .., v, r, hv, he => by intro m hm; simp [marksG] at hm
theorem expsG_mapped (hr : HR c) (ag : Ag c h) (hin : InnerM c h inner ms) : ∀ (ds : List D) {vs : List Value} {rs : List D}, RVs c ds vs → expsG inner h ds = some rs → Mapped c h (markssG ms h ds)
  | [], vs, rs, hv, he => by intro m hm; simp [markssG] at hm
  | d :: ds, vs, rs, hv, he => by
    simp only [expsG] at he
    split at he
    · rename_i d' ds' h1 h2
      cases hv with
      | cons hv hvs =>
        intro m hm
        simp only [markssG] at hm
        rcases List.mem_append.1 hm with hm | hm
        · exact expG_mapped hr ag hin d hv h1 m hm
        · exact expsG_mapped hr ag hin ds hvs h2 m hm
    · cases he
end
end
theorem expI_mapped {h : List Ob} (hr : HR c) (ag : Ag c h) : ∀ k, InnerM c h (expI k h) (marksI k h)
  | 0 => fun xs ys _ _ m hm => by simp [marksI] at hm
  | k + 1 => fun xs ys he hall => by
    simp only [marksI]
    split
    · intro m hm; simp at hm
    · rename_i hnc
      simp only [expI, if_neg hnc] at he
      split at he
      · rename_i zs hz
        have key : ∀ (xs zs : List D), expsG (expI k h) h xs = some zs → (∀ x ∈ xs, ∀ y ∈ x.cells, y.one = true ∧ ∃ u, RV c y u) → Mapped c h (markssG (marksI k h) h xs) := by
          intro xs
          induction xs with
          | nil => intro zs _ _ m hm; simp [markssG] at hm
          | cons x xs ih =>
            intro zs hz hall
            simp only [expsG] at hz
            split at hz
            · rename_i d' ds' h1 h2
              intro m hm
              simp only [markssG] at hm
              rcases List.mem_append.1 hm with hm | hm
              · have hx := hall x (by simp)
                by_cases hag : ∃ cs, x = .agg cs
                · obtain ⟨cs, rfl⟩ := hag
                  simp only [expG, Option.map_eq_some_iff] at h1
                  obtain ⟨cs', h1, _⟩ := h1
                  simp only [marksG] at hm
                  have : ∀ (cs cs' : List D), expsG (expI k h) h cs = some cs' → (∀ y ∈ cs, y.one = true ∧ ∃ u, RV c y u) → Mapped c h (markssG (marksI k h) h cs) := by
                    intro cs
                    induction cs with
                    | nil => intro _ _ _ m hm; simp [markssG] at hm
                    | cons y cs ihc =>
                      intro cs' hcs hall m hm
                      simp only [expsG] at hcs
                      split at hcs
                      · rename_i e' es' g1 g2
                        simp only [markssG] at hm
                        rcases List.mem_append.1 hm with hm | hm
                        · obtain ⟨_, u, hu⟩ := hall y (by simp)
                          exact expG_mapped hr ag (expI_mapped hr ag k) y hu g1 m hm
                        · exact ihc es' g2 (fun y hy => hall y (by simp [hy])) m hm
                      · cases hcs
                  exact this cs cs' h1 hx m hm
                · have hcs : x.cells = [x] := by cases x <;> first | rfl | exact absurd ⟨_, rfl⟩ hag
                  obtain ⟨_, u, hu⟩ := hx x (by rw [hcs]; simp)
                  exact expG_mapped hr ag (expI_mapped hr ag k) x hu h1 m hm
              · exact ih ds' h2 (fun x hx => hall x (by simp [hx])) m hm
            · cases hz
        exact key xs zs hz fun x hx => by
          obtain ⟨i, hi⟩ := List.mem_iff_getElem?.1 hx
          exact hall i x hi
      · cases he
theorem exps1_mapped {h : List Ob} (hr : HR c) (ag : Ag c h) (ds : List D) {vs : List Value} {rs : List D} (hv : RVs c ds vs) (he : exps1 h ds = some rs) : Mapped c h (markss h ds) :=
  expsG_mapped hr ag (expI_mapped hr ag 2) ds hv he

/-- the world goes on, and nothing that was there is touched -/
theorem later_step {h : List Ob} (hr : HR c) (ag : Ag c h) {w' : World} (hb : Below c.w.heap.size c.w w') : Step c h { c with w := w' } h := by
  have hold : ∀ b, b < c.w.heap.size → w'.heap[b]? = c.w.heap[b]? := fun b hb' => hb.block b hb'
  have hext : Ext c { c with w := w' } := by
    refine ⟨rfl, rfl, hb.size, fun b hb' => bsz_of (hold b hb'), fun b off u h1 h2 => ?_, fun id o ho => ⟨o, ho, .inr ⟨rfl, rfl, rfl, fun _ h => h⟩⟩⟩
    have := block_lt h1
    refine ⟨by rw [cell_of_heap (hold b this)]; exact h1, h2⟩
  have hsz : ∀ id b base, c.μ id = some (b, base) → b < c.w.heap.size := fun _ _ _ hm => hr.lt hm
  refine ⟨⟨Nat.le_trans hr.n0 hb.size, hr.ge, hr.inj, fun id b base hm => ?_⟩, hext, ag, fun _ _ => ⟨rfl, rfl⟩, hb.mono hr.n0, Nat.le_refl _, fun _ _ h => h⟩
  obtain ⟨o, cells, el, h1, h2, h3, h4, h5⟩ := hr.ob id b base hm
  have hlt := hr.lt hm
  refine ⟨o, cells, el, h1, by show w'.heap[b]? = _; rw [hold b hlt]; exact h2, h3, h4, fun i d hd => (h5 i d hd).ext hext hsz fun j u _ hu => ?_⟩
  show w'.cell? _ = _
  rw [cell_of_heap (hold b hlt)]; exact hu
/-- a slice that is written out, and never written -/
theorem run_litD {P : Program} {t : TypeId} {h : List Ob} (hr : HR c) (ag : Ag c h) {e : TypeId} {ps : Array (Nat × Operand)} {σ : Nat → D} {a : Act} (ht : ∀ t, RV c (σ t) (a.tmps.getD t undef)) {ds : List (Nat × D)} {n s : Nat} {g : Bool} {z : D} {els : List D}
    (hev : evps σ ps.toList = some ds) (he : elemT P t = some e) (hs : szT P e = some s) (hz : zeroT P e = some z) (g1 : n * s ≤ 2 ^ 24) (g2 : fits P e z = true) (g3 : 0 < s)
    (hf : fillD s g (List.replicate n z) ds = some els) (hcl : cleans els = true) :
    ∃ v w', (Instr.buildSlice t n (ps.map fun (i, x) => (i, a.eval x))).run P c.w = .ok v w' ∧ ∃ c', c'.w = w' ∧ Step c h c' h ∧ RV c' (.sl s els (n == 0)) v := by
  obtain ⟨us', k1, k2, k3, hel⟩ := buildSlice_run hr ht hev he hs hz g1 g2 g3 hf
  have hold : ∀ b, b < c.w.heap.size → (c.w.alloc (.cells us' e)).heap[b]? = c.w.heap[b]? := fun b hb => Below.heap_alloc _ _ _ hb
  have hnew : (c.w.alloc (.cells us' e)).heap[c.w.heap.size]? = some (.cells us' e) := by
    show (c.w.heap.push _)[_]? = _; simp
  have hbel : Below c.w.heap.size c.w (c.w.alloc (.cells us' e)) := by
    refine ⟨rfl, rfl, rfl, ?_, fun k hk => hold k hk⟩
    rw [World.size_alloc]; omega
  have hst := later_step hr ag hbel
  refine ⟨_, _, k1, _, rfl, hst, .cl ?_⟩
  rw [← hel]
  refine .sl (b := c.w.heap.size) (off := 0) (RRow.of fun i x hx => ?_) g3 (Nat.le_refl _) (fun _ => rfl) (fun _ => rfl)
  obtain ⟨n1, n2, n3⟩ := k3 i x hx
  refine ⟨n1, n2, RCells.of fun j y hy => ?_⟩
  obtain ⟨n4, u, n5, n6⟩ := n3 j y hy
  refine ⟨n4, u, ?_, ?_, (clean_rc n6 (cells_clean (cleans_mem hcl x (List.mem_of_getElem? hx)) y (List.mem_of_getElem? hy))).keep hst.ext.kp⟩
  · show (c.w.alloc (.cells us' e)).cell? _ = _
    rw [cell_at hnew]; exact n5
  · rintro (hl | ⟨id, base, o, hm, _⟩)
    · have := hr.n0
      have h1 : c.w.heap.size < c.N0 := hl.1
      omega
    · have := hr.lt (id := id) hm
      omega
end
end Go.Proofs.YtlpadffinfijgaaW.Vm
