/- What a readable argument is, as a plain value. No conditions. -/
import Derived.Test.YtlpadffinfijgaaVmRel
import Derived.ChangeOld
import Derived.ChangeReads
import Derived.SizedLaws
set_option linter.unusedVariables false
set_option linter.unusedSimpArgs false
namespace Go.Proofs.YtlpadffinfijgaaW.Vm
open Go Go.RowKit
section
variable (P : Program)
/-- The cells of an element, as one value. -/
def toD (e : TypeId) (ds : List D) : D := match P.underlying e with
  | some (.struct _) | some (.array _ _) => .agg ds
  | _ => ds.headD .und
def HasFs (T : TypeId → List D → Prop) : List TypeId → List D → Prop
  | [], ds => ds = []
  | t :: ts, ds => ∃ a b, ds = a ++ b ∧ T t a ∧ HasFs T ts b
def HasT : Nat → TypeId → List D → Prop
  | 0, _, _ => False
  | k + 1, t, ds => match P.underlying t with
    | some .bool => ∃ b, ds = [.bool b]
    | some (.int i) => ∃ n, ds = [.int i n] ∧ (Lit.int i n).wf = true
    | some (.float i) => ∃ n, ds = [.flt i n] ∧ (Lit.float i n).wf = true
    | some .string => ∃ s, ds = [.str s] ∧ s.size ≤ maxLen
    | some (.slice e) => ds = [.snil] ∨ ∃ ys : List (List D), ds = [.sl (P.cellsOf e) (ys.map (toD P e)) false] ∧ ys.length ≤ maxLen ∧ ys.length * P.bytesOf e ≤ reachBytes ∧ ∀ y ∈ ys, HasT k e y
    | some (.struct fs) => HasFs (HasT k) (fs.toList.map (·.type)) ds
    | some (.array n e) => HasFs (HasT k) (List.replicate n e) ds
    | _ => False
/-- Do the fields lie one behind the other? -/
def consec : List Field → Nat → Nat → Bool
  | [], off, all => off == all
  | f :: fs, off, all => f.offset == off && consec fs (off + P.cellsOf f.type) all
def okT : Nat → TypeId → Bool
  | 0, _ => false
  | k + 1, t => match P.underlying t with
    | some .bool | some .string | some (.int _) | some (.float _) => P.cellsOf t == 1
    | some (.slice e) => P.cellsOf t == 1 && decide (0 < P.cellsOf e) && okT k e
    | some (.struct fs) => consec P fs.toList 0 (P.cellsOf t) && fs.toList.all fun f => okT k f.type
    | some (.array n e) => (n * P.cellsOf e == P.cellsOf t) && okT k e
    | _ => false

/-- What is proved of a row of cells. -/
def Opd (w : World) (k : Nat) (t : TypeId) (cs : List Value) : Prop :=
  ∃ ds, RCs w (fun _ _ => False) ds cs ∧ (∀ d ∈ ds, d.one = true) ∧ HasT P k t ds
end
section
variable {P : Program}
theorem opd_fs {w : World} {k : Nat} {all : Nat} {cs : List Value} (hl : cs.length = all) : ∀ {fs : List Field} {off : Nat}, consec P fs off all = true → (∀ f ∈ fs, Opd P w k f.type ((cs.drop f.offset).take (P.cellsOf f.type))) →
    ∃ ds, RCs w (fun _ _ => False) ds (cs.drop off) ∧ (∀ d ∈ ds, d.one = true) ∧ HasFs (HasT P k) (fs.map (·.type)) ds
  | [], off, hc, h => by
    have : off = all := by simpa [consec] using hc
    refine ⟨[], ?_, by simp, rfl⟩
    rw [List.drop_eq_nil_of_le (by omega)]; exact .nil
  | f :: fs, off, hc, h => by
    simp only [consec, Bool.and_eq_true, beq_iff_eq] at hc
    obtain ⟨rfl, hc⟩ := hc
    obtain ⟨a, ha, ha1, ha2⟩ := h f (by simp)
    obtain ⟨b, hb, hb1, hb2⟩ := opd_fs (fs := fs) hl hc fun g hg => h g (by simp [hg])
    refine ⟨a ++ b, ?_, ?_, a, b, rfl, ha2, hb2⟩
    · have := ha.append hb
      rwa [← List.drop_drop, List.take_append_drop] at this
    · intro d hd
      rcases List.mem_append.1 hd with hd | hd
      · exact ha1 d hd
      · exact hb1 d hd
theorem opd_rep {w : World} {k : Nat} {e : TypeId} {cs : List Value} {z : Nat} (hz : P.cellsOf e = z) : ∀ {m i : Nat}, cs.length = (i + m) * z → (∀ j, i ≤ j → j < i + m → Opd P w k e ((cs.drop (j * z)).take z)) →
    ∃ ds, RCs w (fun _ _ => False) ds (cs.drop (i * z)) ∧ (∀ d ∈ ds, d.one = true) ∧ HasFs (HasT P k) (List.replicate m e) ds
  | 0, i, hl, h => by
    refine ⟨[], ?_, by simp, rfl⟩
    rw [List.drop_eq_nil_of_le (by simp [hl])]; exact .nil
  | m + 1, i, hl, h => by
    obtain ⟨a, ha, ha1, ha2⟩ := h i (by omega) (by omega)
    obtain ⟨b, hb, hb1, hb2⟩ := opd_rep (m := m) (i := i + 1) hz (by rw [hl]; congr 1; omega) fun j h1 h2 => h j (by omega) (by omega)
    refine ⟨a ++ b, ?_, ?_, a, b, rfl, ha2, hb2⟩
    · have := ha.append hb
      rwa [show (i + 1) * z = i * z + z by rw [Nat.add_mul]; omega, ← List.drop_drop, List.take_append_drop] at this
    · intro d hd
      rcases List.mem_append.1 hd with hd | hd
      · exact ha1 d hd
      · exact hb1 d hd
theorem mapM_get {β γ : Type} {f : β → Option γ} : ∀ {l : List β} {r : List γ}, l.mapM f = some r → r.length = l.length ∧ ∀ (i : Nat) (x : β), l[i]? = some x → ∃ y, r[i]? = some y ∧ f x = some y := by
  intro l
  induction l with
  | nil => intro r h; simp at h; subst h; exact ⟨rfl, fun i x h => by simp at h⟩
  | cons a l ih =>
    intro r h
    simp only [List.mapM_cons, Option.bind_eq_bind, Option.pure_def] at h
    obtain ⟨y, hy, h⟩ := Option.bind_eq_some_iff.1 h
    obtain ⟨ys, hys, h⟩ := Option.bind_eq_some_iff.1 h
    obtain rfl := Option.some.inj h
    obtain ⟨hl, hg⟩ := ih hys
    refine ⟨by simp [hl], fun i x hx => ?_⟩
    cases i with
    | zero => simp at hx; subst hx; exact ⟨y, by simp, hy⟩
    | succ i => simpa using hg i x (by simpa using hx)
theorem add_add (a : Addr) (m j : Nat) : (a.add m).add j = a.add (m + j) := by
  unfold Addr.add
  by_cases hm : m = 0
  · subst hm; simp
  · by_cases hj : j = 0
    · subst hj; simp
    · simp [hm, hj]; omega
theorem add_at (b off n : Nat) : (Addr.mk b off none).add n = ⟨b, off + n, none⟩ := by
  unfold Addr.add
  by_cases h : n = 0
  · subst h; rfl
  · rw [if_neg h]
theorem one_cells {d : D} (h : d.one = true) : d.cells = [d] := by cases d <;> first | rfl | (cases h; done)
theorem toD_cells {e : TypeId} {ds : List D} {z : Nat} (hz : P.cellsOf e = z) (hl : ds.length = z) (h1 : ∀ d ∈ ds, d.one = true) {k : Nat} (hk : okT P (k + 1) e = true) : (toD P e ds).cells = ds ∧ ∀ t, toD P e ds ≠ .tup t := by
  have sc : P.cellsOf e = 1 → ((ds.headD .und).cells = ds ∧ ∀ t, ds.headD .und ≠ .tup t) := by
    intro h
    match ds, hl with
    | [d], _ =>
      have := h1 d (by simp)
      refine ⟨one_cells this, fun t e => ?_⟩
      have e : d = .tup t := e
      subst e; cases this
    | [], hl => simp at hl; omega
    | _ :: _ :: _, hl => simp at hl; omega
  unfold toD
  unfold okT at hk
  split
  · exact ⟨rfl, fun t => by simp⟩
  · exact ⟨rfl, fun t => by simp⟩
  · apply sc
    rename_i n1 n2
    split at hk
    · simpa using hk
    · simpa using hk
    · simpa using hk
    · simpa using hk
    · simp only [Bool.and_eq_true, beq_iff_eq] at hk; exact hk.1.1
    · rename_i fs h; exact absurd h (n1 fs)
    · rename_i n e h; exact absurd h (n2 n e)
    · cases hk
theorem okT_pos : ∀ {k : Nat} {t : TypeId}, okT P k t = true → k ≠ 0
  | 0, _, h => by simp [okT] at h
  | _ + 1, _, _ => by simp
theorem wt_all {H : Type} {e : TypeId} {d : DataW H} {n : Nat} : ∀ {l : List (DataW H)}, d ∈ l → n ∈ d.weights P e → n ∈ DataW.weightsAll P e l
  | a :: l, hd, hn => by
    simp only [DataW.weightsAll, List.mem_append]
    rcases List.mem_cons.1 hd with rfl | hd
    · exact .inl hn
    · exact .inr (wt_all hd hn)
/-- WHAT IS READ, IS A PLAIN VALUE. -/
theorem opd {H : Type} (enc : TypeId × Value → H) (w : World) : ∀ (k : Nat) (fuel : Nat) (t : TypeId) (cs : List Value) (dd : DataW H) (ps : List MemPlace), okT P k t = true →
    DataW.trod enc P w 0 (fun _ => true) true fuel t cs = some (dd, ps) → (∀ n ∈ dd.weights P t, n ≤ reachBytes) → Opd P w k t cs
  | 0, _, _, _, _, _, hk, _, _ => by simp [okT] at hk
  | k + 1, 0, _, _, _, _, _, h, _ => by simp [DataW.trod] at h
  | k + 1, fuel + 1, t, cs, dd, ps, hk, h, hwt => by
    unfold DataW.trod at h
    unfold okT at hk
    split at hk
    · rename_i hu
      rw [hu] at h
      split at h <;> first | (simp_all; done) | skip
      exact ⟨_, .cons (.bool _) .nil, by simp [D.one], by unfold HasT; rw [hu]; exact ⟨_, rfl⟩⟩
    · rename_i hu
      rw [hu] at h
      split at h <;> first | (simp_all; done) | skip
      split at h
      · rename_i hs
        exact ⟨_, .cons (.str _) .nil, by simp [D.one], by unfold HasT; rw [hu]; exact ⟨_, rfl, hs⟩⟩
      · cases h
    · rename_i i hu
      rw [hu] at h
      split at h <;> first | (simp_all; done) | skip
      rename_i e
      split at h
      · rename_i hs
        obtain rfl := hs.1
        simp only [Option.some.injEq, TypeDesc.int.injEq] at e
        subst e
        exact ⟨_, .cons (.int _ _) .nil, by simp [D.one], by unfold HasT; rw [hu]; exact ⟨_, rfl, hs.2⟩⟩
      · cases h
    · rename_i i hu
      rw [hu] at h
      split at h <;> first | (simp_all; done) | skip
      rename_i e
      split at h
      · rename_i hs
        obtain rfl := hs.1
        simp only [Option.some.injEq, TypeDesc.float.injEq] at e
        subst e
        exact ⟨_, .cons (.flt _ _) .nil, by simp [D.one], by unfold HasT; rw [hu]; exact ⟨_, rfl, hs.2⟩⟩
      · cases h
    · rename_i e hu
      simp only [Bool.and_eq_true, beq_iff_eq, decide_eq_true_eq] at hk
      obtain ⟨⟨_, hz⟩, hke⟩ := hk
      rw [hu] at h
      split at h <;> first | (simp_all; done) | skip
      · exact ⟨_, .cons .snil .nil, by simp [D.one], by unfold HasT; rw [hu]; exact .inl rfl⟩
      · rename_i e2 a len cap hu2
        obtain rfl : e = e2 := by simpa using hu2
        simp only at h
        split at h
        · rename_i hb
          obtain ⟨els, hels, h⟩ := Option.bind_eq_some_iff.1 h
          obtain ⟨rest, hrest, h⟩ := Option.map_eq_some_iff.1 h
          rw [if_pos (by trivial)] at hrest
          obtain ⟨hl, hg⟩ := mapM_get hels
          obtain ⟨hl2, hg2⟩ := mapM_get hrest
          obtain ⟨hdd, _⟩ := Prod.mk.inj h
          rw [← hdd] at hwt
          have hA : ∀ n ∈ DataW.weightsAll P e (els.map (·.1)), n ≤ reachBytes := fun n hn => hwt n (by simp only [DataW.weights, hu, List.mem_cons, List.mem_append]; exact .inr (.inl hn))
          have hS : (els.length + rest.length) * P.bytesOf e ≤ reachBytes := hwt _ (by simp [DataW.weights, hu])
          have hsp : cap ≠ 0 → a.spot = none := by
            intro hc
            have : ∃ c, w.cells? 0 (a.add (0 * P.cellsOf e)) (P.cellsOf e) = some c := by
              by_cases hlen : 0 < len
              · obtain ⟨y, _, hy⟩ := hg 0 0 (by simp [hlen])
                obtain ⟨c, hcc, hy⟩ := Option.bind_eq_some_iff.1 hy
                exact ⟨c, hcc⟩
              · obtain ⟨y, _, hy⟩ := hg2 0 0 (by rw [List.getElem?_range (by omega)])
                obtain ⟨c, hcc, hy⟩ := Option.bind_eq_some_iff.1 hy
                obtain rfl : len = 0 := by omega
                exact ⟨c, hcc⟩
            obtain ⟨c, hcc⟩ := this
            obtain ⟨_, hcl, hcell⟩ := World.cells?_some hcc
            have h0 := hcell 0 hz
            rw [List.getElem?_eq_getElem (by omega)] at h0
            have := World.cell?_spot h0
            simpa [Addr.add] using this
          have one : ∀ i, i < len → ∃ ds, RCs w (fun _ _ => False) ds ((List.range (P.cellsOf e)).map fun j => (w.cell? (a.add (i * P.cellsOf e + j))).getD (.int .i64 0)) ∧ (∀ d ∈ ds, d.one = true) ∧ HasT P k e ds ∧ ds.length = P.cellsOf e ∧
              ∀ j, j < P.cellsOf e → ∃ u, w.cell? (a.add (i * P.cellsOf e + j)) = some u := by
            intro i hi
            obtain ⟨y, hy0, hy⟩ := hg i i (by simp [hi])
            obtain ⟨c, hcc, hy⟩ := Option.bind_eq_some_iff.1 hy
            obtain ⟨_, hcl, hcell⟩ := World.cells?_some hcc
            have hcell' : ∀ j, j < P.cellsOf e → w.cell? (a.add (i * P.cellsOf e + j)) = c[j]? := fun j hj => by rw [← add_add]; exact hcell j hj
            obtain ⟨ds, h1, h2, h3⟩ := opd enc w k fuel e c y.1 y.2 hke hy fun n hn => hA n (wt_all (List.mem_map.2 ⟨y, List.mem_of_getElem? hy0, rfl⟩) hn)
            refine ⟨ds, ?_, h2, h3, by rw [h1.length, hcl], fun j hj => ⟨c[j]'(by omega), by rw [hcell' j hj, List.getElem?_eq_getElem]⟩⟩
            have : ((List.range (P.cellsOf e)).map fun j => (w.cell? (a.add (i * P.cellsOf e + j))).getD (.int .i64 0)) = c := by
              apply List.ext_getElem
              · simp [hcl]
              · intro j hj1 hj2
                simp only [List.getElem_map, List.getElem_range]
                rw [hcell' j (by omega), List.getElem?_eq_getElem hj2]; rfl
            rw [this]; exact h1
          have hcap : len ≤ cap := hb.2.1
          let ys : List (List D) := (List.range len).attach.map fun i => (one i.1 (List.mem_range.1 i.2)).choose
          have hys : ∀ i (hi : i < len), ys[i]? = some (one i hi).choose := by
            intro i hi
            simp [ys, hi]
          have hyl : ys.length = len := by simp [ys]
          have hmem : ∀ y ∈ ys, HasT P k e y := by
            intro y hy
            obtain ⟨i, _, rfl⟩ := List.mem_map.1 hy
            exact (one i.1 (List.mem_range.1 i.2)).choose_spec.2.2.1
          obtain ⟨k', rfl⟩ : ∃ k', k = k' + 1 := ⟨k - 1, by have := okT_pos hke; omega⟩
          refine ⟨[.sl (P.cellsOf e) (ys.map (toD P e)) false], ?_, by simp [D.one], ?_⟩
          · refine .cons ?_ .nil
            have hlen : (ys.map (toD P e)).length = len := by simp [hyl]
            obtain ⟨b, off, sp⟩ := a
            have hrow : RRow w (fun _ _ => False) (ys.map (toD P e)) b off (P.cellsOf e) := by
              refine RRow.of fun i x hx => ?_
              have hi : i < len := by
                have := (List.getElem?_eq_some_iff.1 hx).1
                omega
              rw [List.getElem?_map, hys i hi] at hx
              simp only [Option.map_some, Option.some.injEq] at hx
              subst hx
              obtain ⟨h1, h2, h3, h4, h5⟩ := (one i hi).choose_spec
              obtain ⟨hc1, hc2⟩ := toD_cells (P := P) rfl h4 h2 hke
              have hspn : sp = none := hsp (by omega)
              subst hspn
              refine ⟨by rw [hc1, h4], hc2, ?_⟩
              rw [hc1]
              refine RCells.of fun j x hx => ?_
              have hj : j < P.cellsOf e := by rw [← h4]; exact (List.getElem?_eq_some_iff.1 hx).1
              obtain ⟨u, hu⟩ := h5 j hj
              obtain ⟨v, hv, hr⟩ := h1.get hx
              simp only [List.getElem?_map, List.getElem?_range hj, Option.map_some, Option.some.injEq] at hv
              rw [hu] at hv
              rw [add_at] at hu
              refine ⟨h2 x (List.mem_of_getElem? hx), u, by rw [show off + i * P.cellsOf e + j = off + (i * P.cellsOf e + j) by omega]; exact hu, not_false, ?_⟩
              simp only [Option.getD_some] at hv
              rw [hv]; exact hr
            have := RC.sl (cap := cap) (t := false) (a := ⟨b, off, sp⟩) hrow hz (by rw [hlen]; exact hcap) (fun h => by cases h) (fun h => by rw [show sp = none from hsp h])
            rwa [hlen] at this
          · unfold HasT
            rw [hu]
            refine .inr ⟨ys, rfl, by rw [hyl]; omega, ?_, hmem⟩
            rw [hyl]
            exact Nat.le_trans (Nat.mul_le_mul_right _ (by simp at hl; omega)) hS
        · simp at h
    · rename_i fs hu
      simp only [Bool.and_eq_true, List.all_eq_true] at hk
      obtain ⟨hc, hks⟩ := hk
      rw [hu] at h
      split at h <;> first | (simp_all; done) | skip
      rename_i cs _ _ fs2 hu2
      obtain rfl : fs = fs2 := by simpa using hu2
      split at h
      · rename_i hl
        obtain ⟨xs, hxs, h⟩ := Option.map_eq_some_iff.1 h
        obtain ⟨_, hg⟩ := mapM_get hxs
        obtain ⟨hdd, _⟩ := Prod.mk.inj h
        rw [← hdd] at hwt
        obtain ⟨ds, h1, h2, h3⟩ := opd_fs (w := w) (k := k) (fs := fs.toList) hl hc fun f hf => by
          obtain ⟨i, hi⟩ := List.getElem?_of_mem hf
          obtain ⟨y, hy0, hy⟩ := hg i f hi
          exact opd enc w k fuel f.type _ y.1 y.2 (hks f hf) hy fun n hn => hwt n (by
            simp only [DataW.weights, hu]
            exact DataW.weights_mem_each (j := i) (by rw [List.getElem?_map, hi]; rfl) (by rw [List.getElem?_map, hy0]; rfl) n hn)
        exact ⟨ds, h1, h2, by unfold HasT; rw [hu]; exact h3⟩
      · cases h
    · rename_i n e hu
      simp only [Bool.and_eq_true, beq_iff_eq] at hk
      obtain ⟨hc, hke⟩ := hk
      rw [hu] at h
      split at h <;> first | (simp_all; done) | skip
      rename_i cs _ _ n2 e2 hu2
      obtain ⟨rfl, rfl⟩ : n = n2 ∧ e = e2 := by simpa using hu2
      split at h
      · rename_i hl
        obtain ⟨xs, hxs, h⟩ := Option.map_eq_some_iff.1 h
        obtain ⟨_, hg⟩ := mapM_get hxs
        obtain ⟨hdd, _⟩ := Prod.mk.inj h
        rw [← hdd] at hwt
        obtain ⟨ds, h1, h2, h3⟩ := opd_rep (P := P) (w := w) (k := k) (e := e) (cs := cs) rfl (m := n) (i := 0) (by rw [hl, ← hc]; simp) fun j _ hj => by
          obtain ⟨y, hy0, hy⟩ := hg j j (by rw [List.getElem?_range (by omega)])
          exact opd enc w k fuel e _ y.1 y.2 hke hy fun m hm => hwt m (by
            simp only [DataW.weights, hu]
            exact wt_all (List.mem_map.2 ⟨y, List.mem_of_getElem? hy0, rfl⟩) hm)
        refine ⟨ds, by simpa using h1, h2, by unfold HasT; rw [hu]; exact h3⟩
      · cases h
    · cases hk
end
end Go.Proofs.YtlpadffinfijgaaW.Vm
