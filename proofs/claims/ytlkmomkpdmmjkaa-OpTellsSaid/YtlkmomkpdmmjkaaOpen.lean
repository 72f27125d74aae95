/- What a readable argument's cells are, kind by kind: a struct, or a slice of structs, opened into plain data. No conditions. -/
import Derived.ChangeSlices
import Derived.ChangeOld
import Derived.Test.YtlkmomkpdmmjkaaWWords
set_option linter.unusedVariables false
set_option linter.unusedSimpArgs false
namespace Go.Proofs.YtlkmomkpdmmjkaaW.Open
open Go Go.RowKit Go.Proofs.YtlkmomkpdmmjkaaW.PrintWords

structure Opens (P : Program) (t : TypeId) {α : Type} (d : Kd α) (wf : α → Prop) : Prop where
  mk ::
  out : ∀ {H : Type} (enc : TypeId × Value → H) (W : World) (fuel : Nat) (cs : List Value) (dd : DataW H) (ps : List MemPlace),
    DataW.trod enc P W 0 (fun _ => true) true fuel t cs = some (dd, ps) → ∃ x, d.K W x cs ∧ wf x

theorem opens_int {P : Program} {t : TypeId} {k : IntKind} (hu : P.underlying t = some (.int k)) : Opens P t (Kd.int k) (fun n => (Lit.int k n).wf = true) := by
  refine ⟨fun {H} enc W fuel cs dd ps h => ?_⟩
  cases fuel with
  | zero => simp [DataW.trod] at h
  | succ fuel =>
    unfold DataW.trod at h
    rw [hu] at h
    split at h <;> simp_all
    all_goals exact ⟨_, rfl, h.1.2⟩
theorem opens_bool {P : Program} {t : TypeId} (hu : P.underlying t = some .bool) : Opens P t Kd.bool (fun _ => True) := by
  refine ⟨fun {H} enc W fuel cs dd ps h => ?_⟩
  cases fuel with
  | zero => simp [DataW.trod] at h
  | succ fuel =>
    unfold DataW.trod at h
    rw [hu] at h
    split at h <;> first | exact ⟨_, rfl, trivial⟩ | (simp_all; done)
theorem opens_string {P : Program} {t : TypeId} (hu : P.underlying t = some .string) : Opens P t Kd.string (fun s => s.size ≤ maxLen) := by
  refine ⟨fun {H} enc W fuel cs dd ps h => ?_⟩
  cases fuel with
  | zero => simp [DataW.trod] at h
  | succ fuel =>
    unfold DataW.trod at h
    rw [hu] at h
    split at h <;> simp_all
    all_goals exact ⟨_, rfl, h.1⟩
theorem add_add (a : Addr) (m j : Nat) : (a.add m).add j = a.add (m + j) := by
  unfold Addr.add
  by_cases hm : m = 0
  · subst hm; simp
  · by_cases hj : j = 0
    · subst hj; simp
    · simp [hm, hj]; omega
theorem mapM_get {β γ : Type} {f : β → Option γ} : ∀ {l : List β} {r : List γ}, l.mapM f = some r → r.length = l.length ∧ ∀ (i : Nat) (x : β), l[i]? = some x → ∃ y, r[i]? = some y ∧ f x = some y := by
  intro l
  induction l with
  | nil => intro r h; simp at h; subst h; exact ⟨rfl, fun i x h => by simp at h⟩
  | cons a l ih =>
    intro r h
    simp only [List.mapM_cons, Option.bind_eq_bind, Option.pure_def] at h
    obtain ⟨y, hy, h⟩ := Option.bind_eq_some_iff.1 h
    obtain ⟨ys, hys, h⟩ := Option.bind_eq_some_iff.1 h
    obtain rfl := Option.some.inj h
    obtain ⟨hl, hg⟩ := ih hys
    refine ⟨by simp [hl], fun i x hx => ?_⟩
    cases i with
    | zero => simp at hx; subst hx; exact ⟨y, by simp, hy⟩
    | succ i => simpa using hg i x (by simpa using hx)
theorem opens_slice {P : Program} {t e : TypeId} {α : Type} {d : Kd α} {wf : α → Prop} (hu : P.underlying t = some (.slice e)) (hc : P.cellsOf e = d.sz) (he : Opens P e d wf) :
    Opens P t (Kd.slice e d) (fun l => l.length ≤ maxLen ∧ ∀ x ∈ l, wf x) := by
  refine ⟨fun {H} enc W fuel cs dd ps h => ?_⟩
  cases fuel with
  | zero => simp [DataW.trod] at h
  | succ fuel =>
    unfold DataW.trod at h
    rw [hu] at h
    split at h <;> first | (simp_all; done) | skip
    · exact ⟨[], ⟨none, 0, rfl, by simp, Kd.C_nil _ _⟩, by simp, fun x hx => by simp at hx⟩
    · rename_i e2 a len cap hu2
      obtain rfl : e = e2 := by simpa using hu2
      simp only at h
      split at h
      · rename_i hb
        obtain ⟨els, hels, h⟩ := Option.bind_eq_some_iff.1 h
        obtain ⟨hl, hg⟩ := mapM_get hels
        have one : ∀ i, i < len → ∃ x : α, ∃ c : List Value, c.length = d.sz ∧ d.K W x c ∧ wf x ∧ ∀ j u, c[j]? = some u → W.cell? (a.add (i * d.sz + j)) = some u := by
          intro i hi
          obtain ⟨y, _, hy⟩ := hg i i (by simp [hi])
          obtain ⟨c, hcc, hy⟩ := Option.bind_eq_some_iff.1 hy
          obtain ⟨_, hcl, hcell⟩ := World.cells?_some hcc
          obtain ⟨x, hx, hw⟩ := he.out enc W fuel c y.1 y.2 hy
          refine ⟨x, c, by rw [hcl, hc], hx, hw, fun j u hu' => ?_⟩
          have hj : j < c.length := (List.getElem?_eq_some_iff.1 hu').1
          have := hcell j (by omega)
          rw [hu', hc] at this
          rw [← this]
          rw [add_add]
        have hm : maxLen ≤ 9223372036854775807 := by unfold maxLen; omega
        refine ⟨(List.range len).attach.map (fun i => (one i.1 (List.mem_range.1 i.2)).choose), ?_, ?_, ?_⟩
        · refine ⟨some a, cap, by simp, by simp; omega, by simp, by simp; omega, fun _ => ⟨a, rfl, fun j p hj => ?_⟩⟩
          obtain ⟨i, hi, rfl⟩ := List.getElem?_eq_some_iff.1 hj
          simp only [List.length_map, List.length_attach, List.length_range] at i
          simp only [List.getElem_map, List.getElem_attach, List.getElem_range]
          exact (one j i).choose_spec.imp fun c hc => ⟨hc.1, hc.2.1, hc.2.2.2⟩
        · simp; omega
        · intro x hx
          obtain ⟨i, _, rfl⟩ := List.mem_map.1 hx
          obtain ⟨c, _, _, hw, _⟩ := (one i.1 (List.mem_range.1 i.2)).choose_spec
          exact hw
      · simp at h
/-! structs: the fields in their order -/
structure OpensF (P : Program) (fs : List Field) (off : Nat) {α : Type} (d : Kd α) (wf : α → Prop) : Prop where
  mk ::
  out : ∀ {H : Type} (enc : TypeId × Value → H) (W : World) (fuel : Nat) (cs : List Value) (xs : List (DataW H × List MemPlace)), cs.length = off + d.sz →
    fs.mapM (fun f => DataW.trod enc P W 0 (fun _ => true) true fuel f.type ((cs.drop f.offset).take (P.cellsOf f.type))) = some xs → ∃ x, d.K W x (cs.drop off) ∧ wf x
theorem opensF_one {P : Program} {f : Field} {off : Nat} {α : Type} {d : Kd α} {wf : α → Prop} (ho : f.offset = off) (hc : P.cellsOf f.type = d.sz) (he : Opens P f.type d wf) : OpensF P [f] off d wf := by
  refine ⟨fun {H} enc W fuel cs xs hl h => ?_⟩
  obtain ⟨_, hg⟩ := mapM_get h
  obtain ⟨y, _, hy⟩ := hg 0 f rfl
  rw [ho, hc, List.take_of_length_le (by simp; omega)] at hy
  exact he.out enc W fuel _ y.1 y.2 hy
theorem opensF_cons {P : Program} {f : Field} {fs : List Field} {off : Nat} {α β : Type} {d1 : Kd α} {d2 : Kd β} {wf1 : α → Prop} {wf2 : β → Prop} (ho : f.offset = off) (hc : P.cellsOf f.type = d1.sz) (he : Opens P f.type d1 wf1) (hr : OpensF P fs (off + d1.sz) d2 wf2) :
    OpensF P (f :: fs) off (Kd.pair d1 d2) (fun x => wf1 x.1 ∧ wf2 x.2) := by
  refine ⟨fun {H} enc W fuel cs xs hl h => ?_⟩
  have hsz : (Kd.pair d1 d2).sz = d1.sz + d2.sz := rfl
  obtain ⟨_, hg⟩ := mapM_get h
  obtain ⟨y, _, hy⟩ := hg 0 f rfl
  rw [ho, hc] at hy
  obtain ⟨x1, hk1, hw1⟩ := he.out enc W fuel _ y.1 y.2 hy
  simp only [List.mapM_cons, Option.bind_eq_bind, Option.pure_def] at h
  obtain ⟨y0, _, h⟩ := Option.bind_eq_some_iff.1 h
  obtain ⟨ys, hys, h⟩ := Option.bind_eq_some_iff.1 h
  obtain ⟨x2, hk2, hw2⟩ := hr.out enc W fuel cs ys (by omega) hys
  refine ⟨(x1, x2), ⟨(cs.drop off).take d1.sz, cs.drop (off + d1.sz), ?_, hk1, hk2⟩, hw1, hw2⟩
  rw [← List.drop_drop, List.take_append_drop]
theorem opens_struct {P : Program} {t : TypeId} {fs : Array Field} {α β : Type} {d : Kd α} {wf : α → Prop} {k : Kd β} {wf' : β → Prop} (f : β → α) (mk : α → β) (hmk : ∀ y, f (mk y) = y) (hu : P.underlying t = some (.struct fs)) (hf : OpensF P fs.toList 0 d wf)
    (hk : k = Kd.iso d f) (hw' : ∀ x, wf (f x) → wf' x) (hc : P.cellsOf t = d.sz) : Opens P t k wf' := by
  subst hk
  refine ⟨fun {H} enc W fuel cs dd ps h => ?_⟩
  cases fuel with
  | zero => simp [DataW.trod] at h
  | succ fuel =>
    unfold DataW.trod at h
    rw [hu] at h
    split at h <;> first | (simp_all; done) | skip
    rename_i cs _ _ fs2 hu2
    obtain rfl : fs = fs2 := by simpa using hu2
    split at h
    · rename_i hl
      obtain ⟨xs, hxs, _⟩ := Option.map_eq_some_iff.1 h
      obtain ⟨x, hk, hw⟩ := hf.out enc W fuel cs xs (by omega) hxs
      exact ⟨mk x, by show d.K W (f (mk x)) cs; rw [hmk]; simpa using hk, hw' _ (by rw [hmk]; exact hw)⟩
    · simp at h
end Go.Proofs.YtlkmomkpdmmjkaaW.Open
