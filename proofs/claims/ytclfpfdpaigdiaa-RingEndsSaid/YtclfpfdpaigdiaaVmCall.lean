/- What leaves a function, what is shared, and calls: the plain machine's are the model's. No conditions. -/
import Derived.Test.YtclfpfdpaigdiaaVmOpsF
set_option linter.unusedVariables false
set_option linter.unusedSimpArgs false
namespace Go.Proofs.YtclfpfdpaigdiaaW.Vm
open Go Go.RowKit

section
variable {c : Cx}
mutual
theorem clean_rc : ∀ {d : D} {v : Value}, RV c d v → clean d = true → RC c.w (live c) d v
  | _, _, .und _, h => by simp [clean] at h
  | _, _, .cl h, _ => h
  | _, _, .ptrs .., h => by simp [clean] at h
  | _, _, .ptr .., h => by simp [clean] at h
  | _, _, .owns .., h => by simp [clean] at h
  | _, _, .own .., h => by simp [clean] at h
  | _, _, .agg h, hc => .agg (cleans_rc h (by simpa [clean] using hc))
  | _, _, .tup h, hc => .tup (cleans_rc h (by simpa [clean] using hc))
  | _, _, .clo h1 h2, hc => by
    simp only [clean, Bool.and_eq_true] at hc
    exact .clo (cleans_rc h1 hc.1) (cleans_rc h2 hc.2)
  | _, _, .ifc h, hc => .ifc (clean_rc h (by simpa [clean] using hc))
theorem cleans_rc : ∀ {ds : List D} {vs : List Value}, RVs c ds vs → cleans ds = true → RCs c.w (live c) ds vs
  | _, _, .nil, _ => .nil
  | _, _, .cons h r, hc => by
    simp only [cleans, Bool.and_eq_true] at hc
    exact .cons (clean_rc h hc.1) (cleans_rc r hc.2)
end
mutual
theorem flat_rc {w : World} {L L' : Nat → Nat → Prop} : ∀ {d : D} {v : Value}, RC w L d v → flat d = true → RC w L' d v
  | _, _, .int k n, _ => .int k n
  | _, _, .bool b, _ => .bool b
  | _, _, .str s, _ => .str s
  | _, _, .flt k b, _ => .flt k b
  | _, _, .cpx k x y, _ => .cpx k x y
  | _, _, .nil, _ => .nil
  | _, _, .snil, _ => .snil
  | _, _, .nilf, _ => .nilf
  | _, _, .nili, _ => .nili
  | _, _, .agg h, hf => .agg (flats_rc h (by simpa [flat] using hf))
  | _, _, .tup h, hf => .tup (flats_rc h (by simpa [flat] using hf))
  | _, _, .fptr .., hf => by simp [flat] at hf
  | _, _, .sl .., hf => by simp [flat] at hf
  | _, _, .clo .., hf => by simp [flat] at hf
  | _, _, .ifc .., hf => by simp [flat] at hf
theorem flats_rc {w : World} {L L' : Nat → Nat → Prop} : ∀ {ds : List D} {vs : List Value}, RCs w L ds vs → flats ds = true → RCs w L' ds vs
  | _, _, .nil, _ => .nil
  | _, _, .cons h r, hf => by
    simp only [flats, Bool.and_eq_true] at hf
    exact .cons (flat_rc h hf.1) (flats_rc r hf.2)
end

/-- what may leave: these rows are not L's -/
def Leaves (c : Cx) (h : List Ob) (L : Nat → Nat → Prop) (ms : List (Nat × Nat)) : Prop :=
  ∀ m ∈ ms, ∀ b base o, c.μ m.1 = some (b, base) → h[m.1]? = some o → ∀ off, off < base + m.2 * o.esz → ¬ L b off
theorem own_rc {h : List Ob} (hr : HR c) (ag : Ag c h) {L : Nat → Nat → Prop} (hL : ∀ b off, ¬ live c b off → ¬ L b off) {z id ver off len : Nat} {v : Value} {xs : List D} (hv : RV c (.own z id ver off len) v)
    (he : elsOf h (.own z id ver off len) = some xs) (hc : cleans xs = true) (hl : Leaves c h L [(id, off + len)]) : RC c.w L (.sl z xs false) v := by
  simp only [elsOf] at he
  split at he
  · rename_i o ho
    split at he
    · rename_i hcond
      simp only [Option.some.injEq] at he
      have hid : id < h.length := (List.getElem?_eq_some_iff.1 ho).1
      obtain ⟨hz, hlen, b, base, cap, a, hm, rfl, hcap, hb, ha⟩ := hv.own' ((ag id hid).trans ho) hcond.1
      obtain ⟨o2, cells, el, k1, k2, k3, k4, k5⟩ := hr.ob _ _ _ hm
      rw [ag id hid, ho] at k1
      cases k1
      have hxl : xs.length = len := by rw [← he]; simp; omega
      rw [← hxl]
      have hcs : ∀ (xs : List D), cleans xs = true → ∀ x ∈ xs, clean x = true := by
        intro xs
        induction xs with
        | nil => intro _ x hx; simp at hx
        | cons y ys ih =>
          intro h x hx
          simp only [cleans, Bool.and_eq_true] at h
          rcases List.mem_cons.1 hx with rfl | hx
          · exact h.1
          · exact ih h.2 x hx
      refine .sl (b := b) (off := base + off * o.esz) (RRow.of fun i x hx => ?_) (by omega) (by omega) (by simp) (fun h => ha h)
      have hx' := hx
      rw [← he, List.getElem?_take] at hx
      split at hx
      · rename_i hi
        rw [List.getElem?_drop] at hx
        obtain ⟨n1, n2, n3⟩ := k5 _ x hx
        refine ⟨by rw [n1, hz], n2, RCells.of fun j y hy => ?_⟩
        obtain ⟨n4, u, n5, n6⟩ := n3 j y hy
        have hj : j < o.esz := by have := (List.getElem?_eq_some_iff.1 hy).1; omega
        have e1 : base + off * o.esz + i * z + j = base + (off + i) * o.esz + j := by rw [hz, Nat.add_mul]; omega
        rw [e1]
        have hcl : clean y = true := by
          have h1 := hcs xs hc x (List.mem_of_getElem? hx')
          have : ∀ d : D, clean d = true → ∀ y ∈ d.cells, clean y = true := by
            intro d hd y hy
            cases d <;> simp only [D.cells, List.mem_singleton] at hy <;> first
              | (subst hy; exact hd)
              | (simp only [clean] at hd; exact hcs _ hd y hy)
          exact this x h1 y (List.mem_of_getElem? hy)
        have hnl : ¬ L b (base + (off + i) * o.esz + j) := by
          refine hl (id, off + len) (by simp) b base o hm ho _ ?_
          have : (off + i) * o.esz + o.esz ≤ (off + len) * o.esz := by rw [← Nat.succ_mul]; exact Nat.mul_le_mul_right _ (by omega)
          show _ < base + (off + len) * o.esz
          omega
        exact ⟨n4, u, n5, hnl, (clean_rc n6 hcl).keep fun b off u h1 h2 => ⟨h1, hL _ _ h2⟩⟩
      · cases hx
    · cases he
  · cases he
mutual
theorem exp1_rc {h : List Ob} (hr : HR c) (ag : Ag c h) {L : Nat → Nat → Prop} (hL : ∀ b off, ¬ live c b off → ¬ L b off) :
    ∀ (d : D) {v : Value} {r : D}, RV c d v → exp1 h d = some r → clean r = true → Leaves c h L (marks d) → RC c.w L r v
  | .agg cs, v, r, hv, he, hc, hm => by
    simp only [exp1, Option.map_eq_some_iff] at he
    obtain ⟨cs', he, rfl⟩ := he
    obtain ⟨vs, rfl, hvs⟩ := hv.agg'
    exact .agg (exps1_rc hr ag hL cs hvs he (by simpa [clean] using hc) (by simpa [marks] using hm))
  | .tup cs, v, r, hv, he, hc, hm => by
    simp only [exp1, Option.map_eq_some_iff] at he
    obtain ⟨cs', he, rfl⟩ := he
    obtain ⟨vs, rfl, hvs⟩ := hv.tup'
    exact .tup (exps1_rc hr ag hL cs hvs he (by simpa [clean] using hc) (by simpa [marks] using hm))
  | .clo f a b, v, r, hv, he, hc, hm => by
    simp only [exp1] at he
    split at he
    · rename_i a' b' h1 h2
      simp only [Option.some.injEq] at he; subst he
      obtain ⟨va, vb, rfl, hva, hvb⟩ := hv.clo'
      simp only [clean, Bool.and_eq_true] at hc
      simp only [marks] at hm
      exact .clo (exps1_rc hr ag hL a hva h1 hc.1 fun m hm' => hm m (List.mem_append_left _ hm')) (exps1_rc hr ag hL b hvb h2 hc.2 fun m hm' => hm m (List.mem_append_right _ hm'))
    · cases he
  | .ifc t d, v, r, hv, he, hc, hm => by
    simp only [exp1, Option.map_eq_some_iff] at he
    obtain ⟨r', he, rfl⟩ := he
    have hv' : ∃ u, v = .iface t u ∧ RV c d u := by
      cases hv with
      | cl h => cases h with | ifc h => exact ⟨_, rfl, .cl h⟩
      | ifc h => exact ⟨_, rfl, h⟩
    obtain ⟨u, rfl, hu⟩ := hv'
    exact .ifc (exp1_rc hr ag hL d hu he (by simpa [clean] using hc) (by simpa [marks] using hm))
  | .own z id ver off len, v, r, hv, he, hc, hm => by
    simp only [exp1] at he
    split at he
    · rename_i xs hx
      split at he
      · rename_i hcl
        simp only [Option.some.injEq] at he; subst he
        exact own_rc hr ag hL hv hx hcl (by simpa [marks] using hm)
      · cases he
    · cases he
  | .ptr .., v, r, hv, he, hc, hm => by simp [exp1] at he
  | .und, v, r, hv, he, hc, hm => by simp [exp1] at he
  | .int .., v, r, hv, he, hc, hm => by simp only [exp1, Option.some.injEq] at he; subst he; exact (clean_rc hv hc).keep fun b off u h1 h2 => ⟨h1, hL _ _ h2⟩
  | .bool .., v, r, hv, he, hc, hm => by simp only [exp1, Option.some.injEq] at he; subst he; exact (clean_rc hv hc).keep fun b off u h1 h2 => ⟨h1, hL _ _ h2⟩
  | .str .., v, r, hv, he, hc, hm => by simp only [exp1, Option.some.injEq] at he; subst he; exact (clean_rc hv hc).keep fun b off u h1 h2 => ⟨h1, hL _ _ h2⟩
  | .flt .., v, r, hv, he, hc, hm => by simp only [exp1, Option.some.injEq] at he; subst he; exact (clean_rc hv hc).keep fun b off u h1 h2 => ⟨h1, hL _ _ h2⟩
  | .cpx .., v, r, hv, he, hc, hm => by simp only [exp1, Option.some.injEq] at he; subst he; exact (clean_rc hv hc).keep fun b off u h1 h2 => ⟨h1, hL _ _ h2⟩
  | .nil, v, r, hv, he, hc, hm => by simp only [exp1, Option.some.injEq] at he; subst he; exact (clean_rc hv hc).keep fun b off u h1 h2 => ⟨h1, hL _ _ h2⟩
  | .snil, v, r, hv, he, hc, hm => by simp only [exp1, Option.some.injEq] at he; subst he; exact (clean_rc hv hc).keep fun b off u h1 h2 => ⟨h1, hL _ _ h2⟩
  | .nilf, v, r, hv, he, hc, hm => by simp only [exp1, Option.some.injEq] at he; subst he; exact (clean_rc hv hc).keep fun b off u h1 h2 => ⟨h1, hL _ _ h2⟩
  | .nili, v, r, hv, he, hc, hm => by simp only [exp1, Option.some.injEq] at he; subst he; exact (clean_rc hv hc).keep fun b off u h1 h2 => ⟨h1, hL _ _ h2⟩
  | .fptr .., v, r, hv, he, hc, hm => by simp only [exp1, Option.some.injEq] at he; subst he; exact (clean_rc hv hc).keep fun b off u h1 h2 => ⟨h1, hL _ _ h2⟩
  | .sl .., v, r, hv, he, hc, hm => by simp only [exp1, Option.some.injEq] at he; subst he; exact (clean_rc hv hc).keep fun b off u h1 h2 => ⟨h1, hL _ _ h2⟩
theorem exps1_rc {h : List Ob} (hr : HR c) (ag : Ag c h) {L : Nat → Nat → Prop} (hL : ∀ b off, ¬ live c b off → ¬ L b off) :
    ∀ (ds : List D) {vs : List Value} {rs : List D}, RVs c ds vs → exps1 h ds = some rs → cleans rs = true → Leaves c h L (markss ds) → RCs c.w L rs vs
  | [], vs, rs, hv, he, hc, hm => by
    simp only [exps1, Option.some.injEq] at he; subst he
    cases hv; exact .nil
  | d :: ds, vs, rs, hv, he, hc, hm => by
    simp only [exps1] at he
    split at he
    · rename_i d' ds' h1 h2
      simp only [Option.some.injEq] at he; subst he
      simp only [cleans, Bool.and_eq_true] at hc
      simp only [markss] at hm
      cases hv with
      | cons hv hvs =>
        exact .cons (exp1_rc hr ag hL d hv h1 hc.1 fun m hm' => hm m (List.mem_append_left _ hm')) (exps1_rc hr ag hL ds hvs h2 hc.2 fun m hm' => hm m (List.mem_append_right _ hm'))
    · cases he
end

/-! sharing -/
def Mapped (c : Cx) (h : List Ob) (ms : List (Nat × Nat)) : Prop := ∀ m ∈ ms, (∃ o, h[m.1]? = some o) → ∃ x, c.μ m.1 = some x
theorem frzOb_step {h : List Ob} (hr : HR c) (ag : Ag c h) {m : Nat × Nat} (hm : Mapped c h [m]) : ∃ c', c'.w = c.w ∧ Step c h c' (frzOb h m) ∧ c'.μ = c.μ ∧ (∀ o, h[m.1]? = some o → ∃ o' : Ob, (frzOb h m)[m.1]? = some o' ∧ o'.esz = o.esz ∧ m.2 ≤ o'.frz) := by
  unfold frzOb
  cases ho : h[m.1]? with
  | none => exact ⟨c, rfl, .refl hr ag, rfl, by simp⟩
  | some o =>
    obtain ⟨⟨b, base⟩, hx⟩ := hm m (by simp) ⟨o, ho⟩
    have hid : m.1 < h.length := (List.getElem?_eq_some_iff.1 ho).1
    obtain ⟨o2, cells, el, k1, k2, k3, k4, k5⟩ := hr.ob _ _ _ hx
    rw [ag _ hid, ho] at k1
    cases k1
    obtain ⟨h1, h2, h3⟩ := move_cx (o' := { o with frz := max o.frz m.2 }) (base' := base) (b' := b) hr hx ((ag _ hid).trans ho) (w' := c.w) (Nat.le_refl _) rfl rfl rfl (fun _ _ _ => rfl) rfl (fun _ _ h _ => h)
      (.inl ⟨rfl, Nat.add_le_add_left (Nat.mul_le_mul_right _ (Nat.le_max_left _ _)) _⟩) (.inr ⟨rfl, rfl, rfl, rfl, rfl⟩) k2 k3 k4 (fun i d hd => by
        obtain ⟨n1, n2, n3⟩ := k5 i d hd
        refine ⟨n1, n2, fun j x hx => ?_⟩
        obtain ⟨n4, u, n5, n6⟩ := n3 j x hx
        exact ⟨n4, u, by rw [← cell_at k2]; exact n5, n6⟩)
    refine ⟨⟨c.N0, c.L0, fun i => if i = m.1 then some (b, base) else c.μ i, fun i => if i = m.1 then some { o with frz := max o.frz m.2 } else c.hs i, c.w⟩, rfl, ⟨h1, h2, fun i hi => ?_, fun i hi => ?_, h3, by simp, fun i hi hmi => ?_⟩, ?_, fun q hq => ?_⟩
    · simp only [List.length_set] at hi
      simp only []
      by_cases hi' : i = m.1
      · subst hi'; simp [hid]
      · rw [if_neg hi', ag i hi, List.getElem?_set_ne (Ne.symm hi')]
    · simp only [List.length_set] at hi
      exact ⟨if_neg (by omega), if_neg (by omega)⟩
    · simp only []
      rw [if_neg (fun e => by subst e; rw [hx] at hmi; cases hmi)]; exact hmi
    · funext i
      simp only []
      split
      · rename_i hi; rw [hi, hx]
      · rfl
    · cases hq
      exact ⟨{ o with frz := max o.frz m.2 }, by rw [List.getElem?_set_self hid], rfl, Nat.le_max_right _ _⟩
theorem frzOb_keep {h : List Ob} {m : Nat × Nat} {id : Nat} {o : Ob} (ho : h[id]? = some o) : ∃ o' : Ob, (frzOb h m)[id]? = some o' ∧ o'.esz = o.esz ∧ o.frz ≤ o'.frz ∧ o'.ver = o.ver ∧ o'.els = o.els := by
  unfold frzOb
  cases hm : h[m.1]? with
  | none => exact ⟨o, ho, rfl, Nat.le_refl _, rfl, rfl⟩
  | some q =>
    have hid : m.1 < h.length := (List.getElem?_eq_some_iff.1 hm).1
    by_cases hi : m.1 = id
    · subst hi
      rw [hm] at ho; cases ho
      exact ⟨{ o with frz := max o.frz m.2 }, by rw [List.getElem?_set_self hid], rfl, Nat.le_max_left _ _, rfl, rfl⟩
    · exact ⟨o, by rw [List.getElem?_set_ne hi]; exact ho, rfl, Nat.le_refl _, rfl, rfl⟩
theorem frzOb_len (h : List Ob) (m : Nat × Nat) : (frzOb h m).length = h.length := by unfold frzOb; split <;> simp
theorem frzAll_len : ∀ (ms : List (Nat × Nat)) (h : List Ob), (frzAll h ms).length = h.length
  | [], h => rfl
  | m :: ms, h => by simp only [frzAll, List.foldl_cons]; exact (frzAll_len ms (frzOb h m)).trans (frzOb_len h m)
theorem frzAll_step : ∀ (ms : List (Nat × Nat)) {c : Cx} {h : List Ob}, HR c → Ag c h → Mapped c h ms → ∃ c', c'.w = c.w ∧ Step c h c' (frzAll h ms) ∧ c'.μ = c.μ ∧
    (∀ m ∈ ms, ∀ (o : Ob), h[m.1]? = some o → ∃ o' : Ob, (frzAll h ms)[m.1]? = some o' ∧ o'.esz = o.esz ∧ m.2 ≤ o'.frz) ∧ (∀ (id : Nat) (o : Ob), h[id]? = some o → ∃ o' : Ob, (frzAll h ms)[id]? = some o' ∧ o'.esz = o.esz ∧ o.frz ≤ o'.frz)
  | [], c, h, hr, ag, _ => ⟨c, rfl, .refl hr ag, rfl, by simp, fun id o ho => ⟨o, ho, rfl, Nat.le_refl _⟩⟩
  | m :: ms, c, h, hr, ag, hm => by
    obtain ⟨c1, e1, e2, e3, e4⟩ := frzOb_step hr ag (m := m) fun x hx => by
      simp only [List.mem_singleton] at hx; subst hx
      exact hm x (by simp)
    have hm1 : Mapped c1 (frzOb h m) ms := fun x hx ⟨o, ho⟩ => by
      rw [e3]
      have : x.1 < h.length := by rw [← frzOb_len h m]; exact (List.getElem?_eq_some_iff.1 ho).1
      exact hm x (by simp [hx]) ⟨_, List.getElem?_eq_getElem this⟩
    obtain ⟨c2, f1, f2, f3, f4, f5⟩ := frzAll_step ms e2.hr e2.ag hm1
    refine ⟨c2, f1.trans e1, e2.trans f2, f3.trans e3, fun x hx o ho => ?_, fun id o ho => ?_⟩
    · rcases List.mem_cons.1 hx with rfl | hx
      · obtain ⟨o1, g1, g2, g3⟩ := e4 o ho
        obtain ⟨o2, g4, g5, g6⟩ := f5 _ _ g1
        exact ⟨o2, g4, g5.trans g2, Nat.le_trans g3 g6⟩
      · obtain ⟨o1, g1, g2, _, _⟩ := frzOb_keep (m := m) ho
        obtain ⟨o2, g4, g5, g6⟩ := f4 x hx o1 g1
        exact ⟨o2, g4, g5.trans g2, g6⟩
    · obtain ⟨o1, g1, g2, g3, _⟩ := frzOb_keep (m := m) ho
      obtain ⟨o2, g4, g5, g6⟩ := f5 id o1 g1
      exact ⟨o2, g4, g5.trans g2, Nat.le_trans g3 g6⟩
mutual
theorem exp1_mapped {h : List Ob} (ag : Ag c h) : ∀ (d : D) {v : Value} {r : D}, RV c d v → exp1 h d = some r → Mapped c h (marks d)
  | .agg cs, v, r, hv, he => by
    simp only [exp1, Option.map_eq_some_iff] at he
    obtain ⟨cs', he, rfl⟩ := he
    obtain ⟨vs, rfl, hvs⟩ := hv.agg'
    simpa [marks] using exps1_mapped ag cs hvs he
  | .tup cs, v, r, hv, he => by
    simp only [exp1, Option.map_eq_some_iff] at he
    obtain ⟨cs', he, rfl⟩ := he
    obtain ⟨vs, rfl, hvs⟩ := hv.tup'
    simpa [marks] using exps1_mapped ag cs hvs he
  | .clo f a b, v, r, hv, he => by
    simp only [exp1] at he
    split at he
    · rename_i a' b' h1 h2
      obtain ⟨va, vb, rfl, hva, hvb⟩ := hv.clo'
      intro m hm
      simp only [marks] at hm
      rcases List.mem_append.1 hm with hm | hm
      · exact exps1_mapped ag a hva h1 m hm
      · exact exps1_mapped ag b hvb h2 m hm
    · cases he
  | .ifc t d, v, r, hv, he => by
    simp only [exp1, Option.map_eq_some_iff] at he
    obtain ⟨r', he, rfl⟩ := he
    have hv' : ∃ u, v = .iface t u ∧ RV c d u := by
      cases hv with
      | cl h => cases h with | ifc h => exact ⟨_, rfl, .cl h⟩
      | ifc h => exact ⟨_, rfl, h⟩
    obtain ⟨u, rfl, hu⟩ := hv'
    simpa [marks] using exp1_mapped ag d hu he
  | .own z id ver off len, v, r, hv, he => by
    simp only [exp1] at he
    split at he
    · rename_i xs hx
      simp only [elsOf] at hx
      split at hx
      · rename_i o ho
        split at hx
        · rename_i hcond
          have hid : id < h.length := (List.getElem?_eq_some_iff.1 ho).1
          obtain ⟨_, _, b, base, _, _, hm, _⟩ := hv.own' ((ag id hid).trans ho) hcond.1
          intro m hm' _
          simp only [marks, List.mem_singleton] at hm'; subst hm'
          exact ⟨_, hm⟩
        · cases hx
      · cases hx
    · cases he
  | .ptr .., v, r, hv, he => by simp [exp1] at he
  | .und, v, r, hv, he => by simp [exp1] at he
  | .int .., v, r, hv, he => by intro m hm; simp [marks] at hm
  | .bool .., v, r, hv, he => by intro m hm; simp [marks] at hm
  | .str .., v, r, hv, he => by intro m hm; simp [marks] at hm
  | .flt .., v, r, hv, he => by intro m hm; simp [marks] at hm
  | .cpx .., v, r, hv, he => by intro m hm; simp [marks] at hm
  | .nil, v, r, hv, he => by intro m hm; simp [marks] at hm
  | .snil, v, r, hv, he => by intro m hm; simp [marks] at hm
  | .nilf, v, r, hv, he => by intro m hm; simp [marks] at hm
  | .nili, v, r, hv, he => by intro m hm; simp [marks] at hm
  | .fptr .., v, r, hv, he => by intro m hm; simp [marks] at hm
  | .sl .., v, r, hv, he => by intro m hm; simp [marks] at hm
theorem exps1_mapped {h : List Ob} (ag : Ag c h) : ∀ (ds : List D) {vs : List Value} {rs : List D}, RVs c ds vs → exps1 h ds = some rs → Mapped c h (markss ds)
  | [], vs, rs, hv, he => by intro m hm; simp [markss] at hm
  | d :: ds, vs, rs, hv, he => by
    simp only [exps1] at he
    split at he
    · rename_i d' ds' h1 h2
      cases hv with
      | cons hv hvs =>
        intro m hm
        simp only [markss] at hm
        rcases List.mem_append.1 hm with hm | hm
        · exact exp1_mapped ag d hv h1 m hm
        · exact exps1_mapped ag ds hvs h2 m hm
    · cases he
end

/-- the world goes on, and nothing that was there is touched -/
theorem later_step {h : List Ob} (hr : HR c) (ag : Ag c h) {w' : World} (hb : Below c.w.heap.size c.w w') : Step c h { c with w := w' } h := by
  have hold : ∀ b, b < c.w.heap.size → w'.heap[b]? = c.w.heap[b]? := fun b hb' => hb.block b hb'
  have hext : Ext c { c with w := w' } := by
    refine ⟨rfl, rfl, hb.size, fun b hb' => bsz_of (hold b hb'), fun b off u h1 h2 => ?_, fun id o ho => ⟨o, ho, .inr ⟨rfl, rfl, rfl, fun _ h => h⟩⟩⟩
    have := block_lt h1
    refine ⟨by rw [cell_of_heap (hold b this)]; exact h1, h2⟩
  have hsz : ∀ id b base, c.μ id = some (b, base) → b < c.w.heap.size := fun _ _ _ hm => hr.lt hm
  refine ⟨⟨Nat.le_trans hr.n0 hb.size, hr.ge, hr.inj, fun id b base hm => ?_⟩, hext, ag, fun _ _ => ⟨rfl, rfl⟩, hb.mono hr.n0, Nat.le_refl _, fun _ _ h => h⟩
  obtain ⟨o, cells, el, h1, h2, h3, h4, h5⟩ := hr.ob id b base hm
  have hlt := hr.lt hm
  refine ⟨o, cells, el, h1, by show w'.heap[b]? = _; rw [hold b hlt]; exact h2, h3, h4, fun i d hd => (h5 i d hd).ext hext hsz fun j u _ hu => ?_⟩
  show w'.cell? _ = _
  rw [cell_of_heap (hold b hlt)]; exact hu
end
end Go.Proofs.YtclfpfdpaigdiaaW.Vm
