/- Building, making, appending and copying: the plain machine's are the model's. No conditions. -/
import Derived.Test.YtlpadffinfijgaaVmOpsC
import Derived.Laws.Tables
set_option linter.unusedVariables false
set_option linter.unusedSimpArgs false
namespace Go.Proofs.YtlpadffinfijgaaW.Vm
open Go Go.RowKit

section
variable {P : Program} {c : Cx} {t : TypeId}

theorem foldl_seg (off : Nat) : ∀ (l : List Value) (k : Nat) (cs : Array Value), off + k + l.length ≤ cs.size →
    ((l.zipIdx k).foldl (fun (cs : Array Value) (x : Value × Nat) => cs.setIfInBounds (off + x.2) x.1) cs).toList = cs.toList.take (off + k) ++ l ++ cs.toList.drop (off + k + l.length)
  | [], k, cs, _ => by simp
  | v :: l, k, cs, h => by
    simp only [List.zipIdx_cons, List.foldl_cons]
    simp only [List.length_cons] at h
    rw [foldl_seg off l (k + 1) _ (by simp; omega)]
    have := list_seg_step cs.toList (off + k) v l (by simp; omega)
    simpa [Array.toList_setIfInBounds, Nat.add_assoc] using this
theorem fill_one (place : Nat → Option (Nat × Nat)) (cells : Array Value) (i : Nat) (v : Value) (rest : List (Nat × Value)) {off size : Nat} (hp : place i = some (off, size)) (hs : v.cells.size = size)
    (hf : off + size ≤ cells.size) : Instr.fill place cells ((i, v) :: rest) = Instr.fill place (cells.toList.take off ++ v.cells.toList ++ cells.toList.drop (off + size)).toArray rest := by
  simp only [Instr.fill, hp]
  rw [if_neg (by simp [hs]; omega)]
  congr 1
  rw [← Array.foldl_toList, Array.toList_zipIdx]
  apply Array.ext'
  have := foldl_seg off v.cells.toList 0 cells (by simp; omega)
  simp only [Nat.add_zero] at this
  simpa [hs] using this

/-- the elements, as they lie in a list of cells -/
def LiesL (c : Cx) (els : List D) (vs : List Value) (z : Nat) : Prop :=
  ∀ (i : Nat) d, els[i]? = some d → d.cells.length = z ∧ (∀ ds, d ≠ .tup ds) ∧ ∀ (j : Nat) x, d.cells[j]? = some x → x.one = true ∧ ∃ u, vs[i * z + j]? = some u ∧ RV c x u
theorem LiesL.lies {els : List D} {vs : List Value} {z : Nat} (h : LiesL c els vs z) {cells : Array Value} {base : Nat} (hc : ∀ q v, vs[q]? = some v → cells[base + q]? = some v) : Lies c els cells base z :=
  fun i d hd => by
    obtain ⟨h1, h2, h3⟩ := h i d hd
    refine ⟨h1, h2, fun j x hx => ?_⟩
    obtain ⟨h4, u, h5, h6⟩ := h3 j x hx
    exact ⟨h4, u, by rw [Nat.add_assoc]; exact hc _ _ h5, h6⟩
theorem LiesL.append {xs ys : List D} {vs us : List Value} {z : Nat} (h : LiesL c xs vs z) (hl : vs.length = xs.length * z) (k : LiesL c ys us z) : LiesL c (xs ++ ys) (vs ++ us) z := fun i d hd => by
  rw [List.getElem?_append] at hd
  split at hd
  · rename_i hi
    obtain ⟨h1, h2, h3⟩ := h i d hd
    refine ⟨h1, h2, fun j x hx => ?_⟩
    obtain ⟨h4, u, h5, h6⟩ := h3 j x hx
    exact ⟨h4, u, by rw [List.getElem?_append_left (List.getElem?_eq_some_iff.1 h5).1]; exact h5, h6⟩
  · rename_i hi
    obtain ⟨h1, h2, h3⟩ := k _ d hd
    refine ⟨h1, h2, fun j x hx => ?_⟩
    obtain ⟨h4, u, h5, h6⟩ := h3 j x hx
    refine ⟨h4, u, ?_, h6⟩
    have : vs.length ≤ i * z + j := by rw [hl]; have := Nat.mul_le_mul_right z (Nat.le_of_not_lt hi); omega
    rw [List.getElem?_append_right this, ← h5]
    congr 1
    rw [hl, Nat.sub_mul]
    have := Nat.mul_le_mul_right z (Nat.le_of_not_lt hi)
    omega
theorem LiesL.take {xs : List D} {vs : List Value} {z : Nat} (h : LiesL c xs vs z) (n : Nat) : LiesL c (xs.take n) (vs.take (n * z)) z := fun i d hd => by
  rw [List.getElem?_take] at hd
  split at hd
  · rename_i hi
    obtain ⟨h1, h2, h3⟩ := h i d hd
    refine ⟨h1, h2, fun j x hx => ?_⟩
    obtain ⟨h4, u, h5, h6⟩ := h3 j x hx
    refine ⟨h4, u, ?_, h6⟩
    have hj : j < z := by have := (List.getElem?_eq_some_iff.1 hx).1; omega
    have : i * z + z ≤ n * z := by rw [← Nat.succ_mul]; exact Nat.mul_le_mul_right _ hi
    rw [List.getElem?_take, if_pos (by omega)]; exact h5
  · cases hd
theorem LiesL.one {d : D} {v : Value} {z : Nat} (hcv : RVs c d.cells v.cells.toList) (h1 : d.cells.length = z) (h2 : ∀ ds, d ≠ .tup ds) (h3 : d.cells.all D.one = true) : LiesL c [d] v.cells.toList z := fun i x hx => by
  cases i with
  | zero =>
    simp only [List.getElem?_cons_zero, Option.some.injEq] at hx; subst hx
    refine ⟨h1, h2, fun j y hy => ?_⟩
    obtain ⟨u, n1, n2⟩ := hcv.get hy
    exact ⟨List.all_eq_true.1 h3 y (List.mem_of_getElem? hy), u, by simpa using n1, n2⟩
  | succ i => simp at hx

theorem run_bin {op : BinOp} {x y : Operand} {a b d : D} {u v : Value} (ha : RV c a u) (hb : RV c b v) (h : binD P op t x y a b = some d) :
    ∃ r, (do eqGuard op t x y u v; binOp op t u v : Sem Value).run P c.w = .ok r c.w ∧ RV c d r := by
  unfold binD at h
  split at h
  · rename_i u' v' hu hv
    obtain rfl := ha.scal hu
    obtain rfl := hb.scal hv
    split at h
    · rename_i r hr
      exact ⟨r, semPure_run hr _, .cl (ofVal1_rc h)⟩
    · cases h
  · split at h
    · simp only [Option.map_eq_some_iff] at h
      obtain ⟨r, h, rfl⟩ := h
      exact ⟨_, run_eqD (.inl rfl) ha hb h c.w, .cl (.bool _)⟩
    · simp only [Option.map_eq_some_iff] at h
      obtain ⟨r, h, rfl⟩ := h
      exact ⟨_, run_eqD (.inr rfl) ha hb h c.w, .cl (.bool _)⟩
    · cases h
theorem run_pure1 {s : Sem Value} {d : D} (h : pure1 P s = some d) : ∃ r, s.run P c.w = .ok r c.w ∧ RV c d r := by
  unfold pure1 at h
  split at h
  · rename_i r hr
    exact ⟨r, semPure_run hr _, .cl (ofVal1_rc h)⟩
  · cases h

/-! build -/
theorem evps_rv {σ : Nat → D} {a : Act} (ht : ∀ t, RV c (σ t) (a.tmps.getD t undef)) : ∀ {ps : List (Nat × Operand)} {ds : List (Nat × D)}, evps σ ps = some ds →
    ds.map (·.1) = ps.map (·.1) ∧ RVs c (ds.map (·.2)) (ps.map fun x => a.eval x.2)
  | [], ds, h => by simp only [evps, Option.some.injEq] at h; subst h; exact ⟨rfl, .nil⟩
  | (i, x) :: xs, ds, h => by
    simp only [evps] at h
    split at h
    · rename_i d ds' h1 h2
      simp only [Option.some.injEq] at h; subst h
      obtain ⟨e1, e2⟩ := evps_rv ht h2
      exact ⟨by simp [e1], .cons (evs_rv ht h1) e2⟩
    · cases h
/-- a part that is put into cells -/
theorem seg_rv {cs : List D} {vs : Array Value} {d : D} {v : Value} {off s : Nat} (hr : RVs c cs vs.toList) (hcv : RVs c d.cells v.cells.toList) (hs : d.cells.length = s) (hf : off + s ≤ cs.length) :
    RVs c (cs.take off ++ d.cells ++ cs.drop (off + s)) (vs.toList.take off ++ v.cells.toList ++ vs.toList.drop (off + s)) :=
  ((hr.take off).append hcv).append (hr.drop (off + s))
theorem ones_ok {d : D} (h : d.cells.all D.one = true) : (∀ ds, d ≠ .tup ds) ∧ d ≠ .und := by
  constructor
  · rintro ds rfl; simp [D.cells, D.one] at h
  · rintro rfl; simp [D.cells, D.one] at h
theorem buildS_fill {fs : Array Field} {places : List (Nat × Nat)} (hp : fs.toList.mapM (fun f => (P.info? f.type).map fun i => (f.offset, i.size)) = some places) :
    ∀ {ds : List (Nat × D)} {vs : List (Nat × Value)} {cs cs' : List D} {us : Array Value}, ds.map (·.1) = vs.map (·.1) → RVs c (ds.map (·.2)) (vs.map (·.2)) → RVs c cs us.toList → buildS P fs cs ds = some cs' →
    ∃ us', Instr.fill (places.toArray[·]?) us vs = some us' ∧ RVs c cs' us'.toList
  | [], [], cs, cs', us, _, _, hr, h => by simp only [buildS, Option.some.injEq] at h; subst h; exact ⟨us, rfl, hr⟩
  | (i, d) :: ds, (i', v) :: vs, cs, cs', us, he, hrv, hr, h => by
    simp only [List.map_cons, List.cons.injEq] at he hrv
    obtain ⟨rfl, he⟩ := he
    cases hrv with
    | cons hd hrv =>
      simp only [buildS] at h
      split at h
      · rename_i f hf
        split at h
        · rename_i s hs
          split at h
          · rename_i hc
            obtain ⟨n1, n2⟩ := ones_ok hc.2.2
            have hcv := cells_rv hd n1 n2
            have hvs : v.cells.size = s := by rw [← Array.length_toList, ← hcv.length, hc.1]
            have hus : f.offset + s ≤ us.size := by rw [← Array.length_toList, ← hr.length]; exact hc.2.1
            have hplace : places.toArray[i]? = some (f.offset, s) := by
              have hfl : fs.toList[i]? = some f := by simpa using hf
              have : ∀ (l : List Field) (r : List (Nat × Nat)) (i : Nat), l.mapM (fun f => (P.info? f.type).map fun i => (f.offset, i.size)) = some r → l[i]? = some f → r[i]? = some (f.offset, s) := by
                intro l
                induction l with
                | nil => intro r i _ h; simp at h
                | cons g l ih =>
                  intro r i hm hi
                  simp only [List.mapM_cons, Option.bind_eq_bind, Option.pure_def] at hm
                  cases hg : P.info? g.type with
                  | none => simp [hg] at hm
                  | some ig =>
                    cases hl : l.mapM (fun f => (P.info? f.type).map fun i => (f.offset, i.size)) with
                    | none => simp [hg, hl] at hm
                    | some rest =>
                      simp [hg, hl] at hm
                      subst hm
                      cases i with
                      | zero =>
                        simp only [List.getElem?_cons_zero, Option.some.injEq] at hi; subst hi
                        unfold szT at hs
                        simp only [hg, Option.map_some, Option.some.injEq] at hs
                        simp [hs]
                      | succ i => simpa using ih rest i hl (by simpa using hi)
              simpa using this fs.toList places i hp hfl
            rw [fill_one _ _ _ _ _ hplace hvs hus]
            exact buildS_fill hp he hrv (by simpa using seg_rv hr hcv hc.1 hc.2.1) h
          · cases h
        · cases h
      · cases h
  | [], _ :: _, _, _, _, he, _, _, _ => by simp at he
  | _ :: _, [], _, _, _, he, _, _, _ => by simp at he
theorem buildA_fill {s : Nat} : ∀ {ds : List (Nat × D)} {vs : List (Nat × Value)} {cs cs' : List D} {us : Array Value}, ds.map (·.1) = vs.map (·.1) → RVs c (ds.map (·.2)) (vs.map (·.2)) → RVs c cs us.toList → buildA s cs ds = some cs' →
    ∃ us', Instr.fill (fun i => some (i * s, s)) us vs = some us' ∧ RVs c cs' us'.toList
  | [], [], cs, cs', us, _, _, hr, h => by simp only [buildA, Option.some.injEq] at h; subst h; exact ⟨us, rfl, hr⟩
  | (i, d) :: ds, (i', v) :: vs, cs, cs', us, he, hrv, hr, h => by
    simp only [List.map_cons, List.cons.injEq] at he hrv
    obtain ⟨rfl, he⟩ := he
    cases hrv with
    | cons hd hrv =>
      simp only [buildA] at h
      split at h
      · rename_i hc
        obtain ⟨n1, n2⟩ := ones_ok hc.2.2
        have hcv := cells_rv hd n1 n2
        have hvs : v.cells.size = s := by rw [← Array.length_toList, ← hcv.length, hc.1]
        have hus : i * s + s ≤ us.size := by rw [← Array.length_toList, ← hr.length]; exact hc.2.1
        rw [fill_one _ _ _ _ _ rfl hvs hus]
        exact buildA_fill he hrv (by simpa using seg_rv hr hcv hc.1 hc.2.1) h
      · cases h
  | [], _ :: _, _, _, _, he, _, _, _ => by simp at he
  | _ :: _, [], _, _, _, he, _, _, _ => by simp at he

theorem run_buildD {ps : Array (Nat × Operand)} {σ : Nat → D} {a : Act} (ht : ∀ t, RV c (σ t) (a.tmps.getD t undef)) {ds : List (Nat × D)} {d : D} (he : evps σ ps.toList = some ds) (h : buildD P t ds = some d) :
    ∃ u, (Instr.build t (ps.map fun (i, x) => (i, a.eval x))).run P c.w = .ok u c.w ∧ RV c d u := by
  obtain ⟨e1, e2⟩ := evps_rv ht he
  have hv1 : ds.map (·.1) = (ps.map fun (i, x) => (i, a.eval x)).toList.map (·.1) := by rw [e1]; simp
  have hv2 : RVs c (ds.map (·.2)) ((ps.map fun (i, x) => (i, a.eval x)).toList.map (·.2)) := by simpa [Function.comp_def] using e2
  unfold buildD at h
  split at h
  · rename_i z fs hz hu
    split at h
    · rename_i hall
      simp only [Option.map_eq_some_iff] at h
      obtain ⟨cs', h, rfl⟩ := h
      unfold zeroT at hz
      cases hi : P.info? t with
      | none => simp [hi] at hz
      | some it =>
        cases hzz : it.zero with
        | none => simp [hi, hzz] at hz
        | some zv =>
          simp only [hi, hzz, Option.map_some] at hz
          obtain ⟨us, rfl, hr⟩ := (RV.cl (c := c) (ofVal_rc hz)).agg'
          obtain ⟨places, hp⟩ : ∃ places, fs.toList.mapM (fun f => (P.info? f.type).map fun i => (f.offset, i.size)) = some places := by
            have : ∀ l : List Field, (∀ f ∈ l, (szT P f.type).isSome = true) → ∃ places, l.mapM (fun f => (P.info? f.type).map fun i => (f.offset, i.size)) = some places := by
              intro l
              induction l with
              | nil => intro _; exact ⟨[], rfl⟩
              | cons g l ih =>
                intro hl
                obtain ⟨r, hr⟩ := ih fun f hf => hl f (by simp [hf])
                have hg := hl g (by simp)
                unfold szT at hg
                cases hgi : P.info? g.type with
                | none => simp [hgi] at hg
                | some ig => exact ⟨_, by simp [List.mapM_cons, hgi, hr]; rfl⟩
            refine this _ fun f hf => ?_
            have := Array.all_eq_true'.1 hall f (by simpa using hf)
            exact this
          obtain ⟨us', f1, f2⟩ := buildS_fill hp hv1 hv2 hr h
          refine ⟨.agg us', run_build c.w t _ us' ?_, .agg f2⟩
          unfold Program.built
          simp only [hi, hu, hzz, hp]
          exact f1
    · cases h
  · rename_i z n e hz hu
    split at h
    · rename_i s hs
      simp only [Option.map_eq_some_iff] at h
      obtain ⟨cs', h, rfl⟩ := h
      unfold zeroT at hz
      cases hi : P.info? t with
      | none => simp [hi] at hz
      | some it =>
        cases hzz : it.zero with
        | none => simp [hi, hzz] at hz
        | some zv =>
          simp only [hi, hzz, Option.map_some] at hz
          obtain ⟨us, rfl, hr⟩ := (RV.cl (c := c) (ofVal_rc hz)).agg'
          obtain ⟨us', f1, f2⟩ := buildA_fill hv1 hv2 hr h
          refine ⟨.agg us', run_build c.w t _ us' ?_, .agg f2⟩
          unfold szT at hs
          cases hie : P.info? e with
          | none => simp [hie] at hs
          | some ie =>
            simp only [hie, Option.map_some, Option.some.injEq] at hs
            unfold Program.built
            simp only [hi, hu, hzz, hie, hs]
            exact f1
    · cases h
  · cases h
end
end Go.Proofs.YtlpadffinfijgaaW.Vm
