/- Steps of the plain machine beside steps of the model's memory: a new object, a written one, one that moves. No conditions. -/
import Derived.Test.YtlpadffinfijgaaVmRel
import Derived.Laws.CopyRow
import Derived.Laws.Append
import Derived.Laws.Cells
set_option linter.unusedVariables false
set_option linter.unusedSimpArgs false
namespace Go.Proofs.YtlpadffinfijgaaW.Vm
open Go Go.RowKit

structure Step (c : Cx) (h : List Ob) (c' : Cx) (h' : List Ob) : Prop where
  hr : HR c'
  ext : Ext c c'
  ag : ∀ id, id < h'.length → c'.hs id = h'[id]?
  out : ∀ id, h'.length ≤ id → c'.hs id = c.hs id ∧ c'.μ id = c.μ id
  bel : Below c.N0 c.w c'.w
  len : h.length ≤ h'.length
  unm : ∀ id, id < h.length → c.μ id = none → c'.μ id = none
def Ag (c : Cx) (h : List Ob) : Prop := ∀ id, id < h.length → c.hs id = h[id]?
/-- the numbers between are free -/
def Free (c : Cx) (h h' : List Ob) : Prop := ∀ id, h.length ≤ id → id < h'.length → c.μ id = none ∧ c.hs id = none
theorem Step.refl {c : Cx} {h : List Ob} (hr : HR c) (ag : Ag c h) : Step c h c h := ⟨hr, .refl c, ag, fun _ _ => ⟨rfl, rfl⟩, .refl _ _, Nat.le_refl _, fun _ _ h => h⟩
theorem Step.trans {a b c : Cx} {h1 h2 h3 : List Ob} (s : Step a h1 b h2) (t : Step b h2 c h3) : Step a h1 c h3 :=
  ⟨t.hr, s.ext.trans t.ext, t.ag, fun id hi => ⟨(t.out id hi).1.trans (s.out id (Nat.le_trans t.len hi)).1, (t.out id hi).2.trans (s.out id (Nat.le_trans t.len hi)).2⟩,
    s.bel.trans (by have := t.bel; rw [s.ext.N0] at this; exact this), Nat.le_trans s.len t.len,
    fun id hi hm => t.unm id (Nat.lt_of_lt_of_le hi s.len) (s.unm id hi hm)⟩
theorem Step.rv {c c' : Cx} {h h' : List Ob} (s : Step c h c' h') (hr : HR c) {d : D} {v : Value} (hv : RV c d v) : RV c' d v := hv.ext s.ext fun _ _ _ hm => hr.lt hm
theorem Free.mid {a b : Cx} {h1 h2 h3 : List Ob} (f : Free a h1 h3) (s : Step a h1 b h2) (hl : h2.length ≤ h3.length) : Free b h2 h3 := fun id h4 h5 => by
  obtain ⟨e1, e2⟩ := s.out id h4
  obtain ⟨f1, f2⟩ := f id (Nat.le_trans s.len h4) h5
  exact ⟨e2.trans f1, e1.trans f2⟩
theorem Free.left {a : Cx} {h1 h2 h3 : List Ob} (f : Free a h1 h3) (hl : h2.length ≤ h3.length) : Free a h1 h2 := fun id h4 h5 => f id h4 (by omega)

theorem cell_alloc {w : World} {o : Obj} {b off : Nat} (hb : b < w.heap.size) : (w.alloc o).cell? ⟨b, off, none⟩ = w.cell? ⟨b, off, none⟩ := by unfold World.cell?; simp only [Below.heap_alloc _ _ _ hb]
theorem bsz_of {w w' : World} {b : Nat} (h : w'.heap[b]? = w.heap[b]?) : bsz w' b = bsz w b := by unfold bsz; rw [h]
theorem cell_of_heap {w w' : World} {b off : Nat} (h : w'.heap[b]? = w.heap[b]?) : w'.cell? ⟨b, off, none⟩ = w.cell? ⟨b, off, none⟩ := by unfold World.cell?; simp only [h]
theorem cell_at {w : World} {b off : Nat} {cells : Array Value} {e : TypeId} {fz : Nat × Nat} (h : w.heap[b]? = some (.cells cells e fz)) : w.cell? ⟨b, off, none⟩ = cells[off]? := by
  unfold World.cell?; simp only [h]; rfl

/-- the elements, as they lie in the cells from base on -/
def Lies (c : Cx) (els : List D) (cells : Array Value) (base z : Nat) : Prop :=
  ∀ (i : Nat) d, els[i]? = some d → d.cells.length = z ∧ (∀ ds, d ≠ .tup ds) ∧ ∀ (j : Nat) x, d.cells[j]? = some x → x.one = true ∧ ∃ u, cells[base + i * z + j]? = some u ∧ RV c x u

/-- A new object. -/
theorem alloc_cx {c : Cx} (hr : HR c) {id : Nat} (hm : c.μ id = none) {els : List D} {z : Nat} {cells : Array Value} {e : TypeId} (hh : c.hs id = none ∨ c.hs id = some ⟨0, z, els, 0⟩) (hz : 0 < z)
    (hs : els.length * z ≤ cells.size) (hl : Lies c els cells 0 z) {w1 : World} (hw : w1 = c.w ∨ w1 = c.w.drew) :
    let c' : Cx := ⟨c.N0, c.L0, fun i => if i = id then some (c.w.heap.size, 0) else c.μ i, fun i => if i = id then some ⟨0, z, els, 0⟩ else c.hs i, w1.alloc (.cells cells e)⟩
    HR c' ∧ Ext c c' ∧ Below c.N0 c.w c'.w := by
  intro c'
  have hheap : w1.heap = c.w.heap := by rcases hw with rfl | rfl <;> rfl
  have hold : ∀ b, b < c.w.heap.size → c'.w.heap[b]? = c.w.heap[b]? := fun b hb => by
    show (w1.alloc _).heap[b]? = _
    rw [Below.heap_alloc _ _ _ (by rw [hheap]; exact hb), hheap]
  have hnew : c'.w.heap[c.w.heap.size]? = some (.cells cells e) := by
    show (w1.alloc _).heap[_]? = _
    rw [← hheap]; show (w1.heap.push _)[_]? = _; simp
  have hsize : c'.w.heap.size = c.w.heap.size + 1 := by show (w1.alloc _).heap.size = _; rw [World.size_alloc, hheap]
  have hlive : ∀ b off, b < c.w.heap.size → ¬ live c b off → ¬ live c' b off := by
    rintro b off hb h (h' | ⟨i, base, o, h1, h2, h3⟩)
    · exact h (.inl h')
    · simp only [c'] at h1 h2
      split at h1
      · simp only [Option.some.injEq, Prod.mk.injEq] at h1; omega
      · rename_i hne
        rw [if_neg hne] at h2
        exact h (.inr ⟨i, base, o, h1, h2, h3⟩)
  have hext : Ext c c' := by
    refine ⟨rfl, rfl, by omega, fun b hb => bsz_of (hold b hb), fun b off u h1 h2 => ?_, fun i o ho => ?_⟩
    · have hb := block_lt h1
      exact ⟨by rw [cell_of_heap (hold b hb)]; exact h1, hlive b off hb h2⟩
    · by_cases hne : i = id
      · subst hne
        rcases hh with hh | hh
        · rw [hh] at ho; cases ho
        · rw [hh] at ho; cases ho
          exact ⟨_, by simp [c'], .inr ⟨rfl, rfl, rfl, fun m hm' => by rw [hm] at hm'; cases hm'⟩⟩
      · exact ⟨o, by simp only [c', if_neg hne]; exact ho, .inr ⟨rfl, rfl, rfl, fun m hm => by simp only [c', if_neg hne]; exact hm⟩⟩
  have hsz : ∀ id b base, c.μ id = some (b, base) → b < c.w.heap.size := fun _ _ _ hm => hr.lt hm
  refine ⟨⟨by have := hr.n0; show c.N0 ≤ _; omega, fun i b base h => ?_, fun i i' b x y h1 h2 => ?_, fun i b base h => ?_⟩, hext, ?_⟩
  · simp only [c'] at h
    split at h
    · simp only [Option.some.injEq, Prod.mk.injEq] at h; have := hr.n0; show c.N0 ≤ b; omega
    · exact hr.ge i b base h
  · simp only [c'] at h1 h2
    split at h1 <;> split at h2
    · omega
    · simp only [Option.some.injEq, Prod.mk.injEq] at h1; have := hr.lt h2; omega
    · simp only [Option.some.injEq, Prod.mk.injEq] at h2; have := hr.lt h1; omega
    · exact hr.inj i i' b x y h1 h2
  · simp only [c'] at h
    split at h
    · rename_i hi
      simp only [Option.some.injEq, Prod.mk.injEq] at h
      obtain ⟨rfl, rfl⟩ := h
      refine ⟨⟨0, z, els, 0⟩, cells, e, by simp only [c', if_pos hi], hnew, hz, by simpa using hs, fun k d hd => ?_⟩
      obtain ⟨h1, h2, h3⟩ := hl k d hd
      refine ⟨h1, h2, fun j x hx => ?_⟩
      obtain ⟨h4, u, h5, h6⟩ := h3 j x hx
      exact ⟨h4, u, by rw [cell_at hnew]; exact h5, h6.ext hext hsz⟩
    · rename_i hi
      obtain ⟨o, cs, el, h1, h2, h3, h4, h5⟩ := hr.ob i b base h
      have hb : b < c.w.heap.size := hr.lt h
      refine ⟨o, cs, el, by simp only [c', if_neg hi]; exact h1, by rw [hold b hb]; exact h2, h3, h4, fun k d hd => (h5 k d hd).ext hext hsz fun j u _ hu => ?_⟩
      rw [cell_of_heap (hold b hb)]; exact hu
  · refine ⟨?_, ?_, ?_, by show c.w.heap.size ≤ c'.w.heap.size; omega, fun k hk => hold k (by have := hr.n0; omega)⟩ <;> (rcases hw with rfl | rfl <;> rfl)

/-- the next number is free for this object -/
def FreeA (c : Cx) (id z : Nat) (els : List D) : Prop := c.μ id = none ∧ (c.hs id = none ∨ c.hs id = some ⟨0, z, els, 0⟩)
theorem Free.a {c : Cx} {h : List Ob} {z : Nat} {els : List D} (f : Free c h (newOb h z els)) : FreeA c h.length z els := by
  obtain ⟨f1, f2⟩ := f h.length (Nat.le_refl _) (by simp [newOb])
  exact ⟨f1, .inl f2⟩
/-- a context with one object more -/
def addOb (c : Cx) (id z : Nat) (els : List D) (w' : World) : Cx := ⟨c.N0, c.L0, fun i => if i = id then some (c.w.heap.size, 0) else c.μ i, fun i => if i = id then some ⟨0, z, els, 0⟩ else c.hs i, w'⟩
structure Al (c : Cx) (id z : Nat) (els : List D) (w' : World) : Prop where
  hr : HR (addOb c id z els w')
  ext : Ext c (addOb c id z els w')
  bel : Below c.N0 c.w w'
theorem alloc_al {c : Cx} (hr : HR c) {id : Nat} {els : List D} {z : Nat} (hf : FreeA c id z els) {cells : Array Value} {e : TypeId} (hz : 0 < z)
    (hs : els.length * z ≤ cells.size) (hl : Lies c els cells 0 z) {w1 : World} (hw : w1 = c.w ∨ w1 = c.w.drew) : Al c id z els (w1.alloc (.cells cells e)) := by
  obtain ⟨h1, h2, h3⟩ := alloc_cx hr hf.1 (e := e) hf.2 hz hs hl hw
  exact ⟨h1, h2, h3⟩
theorem Al.step {c : Cx} {h : List Ob} {z : Nat} {els : List D} {w' : World} (a : Al c h.length z els w') (ag : Ag c h) : Step c h (addOb c h.length z els w') (newOb h z els) := by
  refine ⟨a.hr, a.ext, fun id hi => ?_, fun id hi => ?_, a.bel, by simp [newOb], fun id hi hm => ?_⟩
  · simp only [newOb, List.length_append, List.length_cons, List.length_nil] at hi
    simp only [newOb, addOb]
    by_cases hid : id = h.length
    · subst hid; simp
    · rw [if_neg hid, ag id (by omega), List.getElem?_append_left (by omega)]
  · simp only [newOb, List.length_append, List.length_cons, List.length_nil] at hi
    exact ⟨if_neg (by omega), if_neg (by omega)⟩
  · simp only [addOb, if_neg (show ¬ id = h.length by omega)]; exact hm
theorem alloc_step {c : Cx} {h : List Ob} (hr : HR c) (ag : Ag c h) {els : List D} {z : Nat} (hf : Free c h (newOb h z els)) {cells : Array Value} {e : TypeId} (hz : 0 < z)
    (hs : els.length * z ≤ cells.size) (hl : Lies c els cells 0 z) {w1 : World} (hw : w1 = c.w ∨ w1 = c.w.drew) :
    ∃ c', c'.w = w1.alloc (.cells cells e) ∧ Step c h c' (newOb h z els) ∧ c'.μ h.length = some (c.w.heap.size, 0) ∧ c'.hs h.length = some ⟨0, z, els, 0⟩ :=
  ⟨_, rfl, (alloc_al hr hf.a hz hs hl hw).step ag, by simp [addOb], by simp [addOb]⟩

/-- An object that is written, told anew, or moved to a new block. -/
theorem move_cx {c : Cx} (hr : HR c) {id b base b' base' : Nat} {o o' : Ob} (hm : c.μ id = some (b, base)) (ho : c.hs id = some o) {w' : World}
    (hsize : c.w.heap.size ≤ w'.heap.size) (hos : w'.os = c.w.os) (htape : w'.tape = c.w.tape) (hout : w'.output = c.w.output)
    (hold : ∀ k, k < c.w.heap.size → k ≠ b → w'.heap[k]? = c.w.heap[k]?)
    (hbs : bsz w' b = bsz c.w b)
    (hfz : ∀ off u, c.w.cell? ⟨b, off, none⟩ = some u → off < base + o.frz * o.esz → w'.cell? ⟨b, off, none⟩ = some u)
    (hb' : (b' = b ∧ base + o.frz * o.esz ≤ base' + o'.frz * o'.esz) ∨ c.w.heap.size ≤ b')
    (hver : o.ver < o'.ver ∨ (o'.ver = o.ver ∧ o'.esz = o.esz ∧ o'.els.length = o.els.length ∧ b' = b ∧ base' = base))
    {cells : Array Value} {e : TypeId} (hcells : w'.heap[b']? = some (.cells cells e (0, 0))) (hz : 0 < o'.esz) (hfit : base' + o'.els.length * o'.esz ≤ cells.size)
    (hl : Lies c o'.els cells base' o'.esz) :
    let c' : Cx := ⟨c.N0, c.L0, fun i => if i = id then some (b', base') else c.μ i, fun i => if i = id then some o' else c.hs i, w'⟩
    HR c' ∧ Ext c c' ∧ Below c.N0 c.w c'.w := by
  intro c'
  have hbl := hr.lt hm
  have hge := hr.ge _ _ _ hm
  have hlive : ∀ k off, k < c.w.heap.size → ¬ live c k off → ¬ live c' k off := by
    rintro k off hk h (h' | ⟨i, bs, q, h1, h2, h3⟩)
    · exact h (.inl h')
    · simp only [c'] at h1 h2
      split at h1
      · rename_i hi
        rw [if_pos hi] at h2
        simp only [Option.some.injEq, Prod.mk.injEq] at h1 h2
        obtain ⟨rfl, rfl⟩ := h1
        subst h2
        rcases hb' with ⟨hb1, hb2⟩ | hb1
        · subst hb1
          exact h (.inr ⟨id, base, o, hm, ho, by omega⟩)
        · omega
      · rename_i hne
        rw [if_neg hne] at h2
        exact h (.inr ⟨i, bs, q, h1, h2, h3⟩)
  have hext : Ext c c' := by
    refine ⟨rfl, rfl, hsize, fun k hk => ?_, fun k off u h1 h2 => ?_, fun i q hq => ?_⟩
    · by_cases hkb : k = b
      · subst hkb; exact hbs
      · exact bsz_of (hold k hk hkb)
    · have hk := block_lt h1
      refine ⟨?_, hlive k off hk h2⟩
      by_cases hkb : k = b
      · subst hkb
        exact hfz off u h1 (Nat.lt_of_not_le fun hle => h2 (.inr ⟨id, base, o, hm, ho, hle⟩))
      · rw [cell_of_heap (hold k hk hkb)]; exact h1
    · by_cases hi : i = id
      · subst hi
        rw [ho] at hq
        cases hq
        refine ⟨o', by simp [c'], ?_⟩
        rcases hver with hv | ⟨h1, h2, h3, h4, h5⟩
        · exact .inl hv
        · exact .inr ⟨h1, h2, h3, fun m hm' => by rw [hm] at hm'; cases hm'; simp [c', h4, h5]⟩
      · exact ⟨q, by simp only [c', if_neg hi]; exact hq, .inr ⟨rfl, rfl, rfl, fun m hm' => by simp only [c', if_neg hi]; exact hm'⟩⟩
  have hsz : ∀ id b base, c.μ id = some (b, base) → b < c.w.heap.size := fun _ _ _ hm => hr.lt hm
  refine ⟨⟨Nat.le_trans hr.n0 hsize, fun i k bs h => ?_, fun i i' k x y h1 h2 => ?_, fun i k bs h => ?_⟩, hext, ?_⟩
  · simp only [c'] at h
    split at h
    · simp only [Option.some.injEq, Prod.mk.injEq] at h
      have := hr.n0
      show c.N0 ≤ k
      rcases hb' with ⟨hb1, _⟩ | hb1 <;> omega
    · exact hr.ge i k bs h
  · simp only [c'] at h1 h2
    split at h1 <;> split at h2
    · omega
    · simp only [Option.some.injEq, Prod.mk.injEq] at h1
      have h3 := hr.lt h2
      rcases hb' with ⟨hb1, _⟩ | hb1
      · exact absurd (hr.inj i' id b y base (by rw [h2, ← hb1, h1.1]) hm) (by assumption)
      · omega
    · simp only [Option.some.injEq, Prod.mk.injEq] at h2
      have h3 := hr.lt h1
      rcases hb' with ⟨hb1, _⟩ | hb1
      · exact absurd (hr.inj i id b x base (by rw [h1, ← hb1, h2.1]) hm) (by assumption)
      · omega
    · exact hr.inj i i' k x y h1 h2
  · simp only [c'] at h
    split at h
    · rename_i hi
      simp only [Option.some.injEq, Prod.mk.injEq] at h
      obtain ⟨rfl, rfl⟩ := h
      refine ⟨o', cells, e, by simp only [c', if_pos hi], hcells, hz, hfit, fun k d hd => ?_⟩
      obtain ⟨h1, h2, h3⟩ := hl k d hd
      refine ⟨h1, h2, fun j x hx => ?_⟩
      obtain ⟨h4, u, h5, h6⟩ := h3 j x hx
      exact ⟨h4, u, by rw [cell_at hcells]; exact h5, h6.ext hext hsz⟩
    · rename_i hi
      obtain ⟨q, cs, el, h1, h2, h3, h4, h5⟩ := hr.ob i k bs h
      have hk : k < c.w.heap.size := hr.lt h
      have hkb : k ≠ b := fun hkb => by subst hkb; exact hi (hr.inj i id k bs base h hm)
      refine ⟨q, cs, el, by simp only [c', if_neg hi]; exact h1, by rw [hold k hk hkb]; exact h2, h3, h4, fun n d hd => (h5 n d hd).ext hext hsz fun j u _ hu => ?_⟩
      rw [cell_of_heap (hold k hk hkb)]; exact hu
  · exact ⟨hos, htape, hout, hsize, fun k hk => hold k (by have := hr.n0; omega) (by omega)⟩

theorem move_step {c : Cx} {h : List Ob} (hr : HR c) (ag : Ag c h) {id b base b' base' : Nat} {o o' : Ob} (hm : c.μ id = some (b, base)) (ho : h[id]? = some o) {w' : World}
    (hsize : c.w.heap.size ≤ w'.heap.size) (hos : w'.os = c.w.os) (htape : w'.tape = c.w.tape) (hout : w'.output = c.w.output)
    (hold : ∀ k, k < c.w.heap.size → k ≠ b → w'.heap[k]? = c.w.heap[k]?)
    (hbs : bsz w' b = bsz c.w b)
    (hfz : ∀ off u, c.w.cell? ⟨b, off, none⟩ = some u → off < base + o.frz * o.esz → w'.cell? ⟨b, off, none⟩ = some u)
    (hb' : (b' = b ∧ base + o.frz * o.esz ≤ base' + o'.frz * o'.esz) ∨ c.w.heap.size ≤ b')
    (hver : o.ver < o'.ver ∨ (o'.ver = o.ver ∧ o'.esz = o.esz ∧ o'.els.length = o.els.length ∧ b' = b ∧ base' = base))
    {cells : Array Value} {e : TypeId} (hcells : w'.heap[b']? = some (.cells cells e (0, 0))) (hz : 0 < o'.esz) (hfit : base' + o'.els.length * o'.esz ≤ cells.size)
    (hl : Lies c o'.els cells base' o'.esz) :
    ∃ c', c'.w = w' ∧ Step c h c' (h.set id o') ∧ c'.μ id = some (b', base') ∧ c'.hs id = some o' := by
  have hid : id < h.length := (List.getElem?_eq_some_iff.1 ho).1
  obtain ⟨h1, h2, h3⟩ := move_cx hr hm ((ag id hid).trans ho) hsize hos htape hout hold hbs hfz hb' hver hcells hz hfit hl
  refine ⟨_, rfl, ⟨h1, h2, fun i hi => ?_, fun i hi => ?_, h3, by simp, fun i hi hmi => ?_⟩, by simp, by simp⟩
  · simp only [List.length_set] at hi
    simp only []
    by_cases hid' : i = id
    · subst hid'; simp [hid]
    · rw [if_neg hid', ag i hi, List.getElem?_set_ne (Ne.symm hid')]
  · simp only [List.length_set] at hi
    exact ⟨if_neg (by omega), if_neg (by omega)⟩
  · simp only []
    rw [if_neg (fun e => by subst e; rw [hm] at hmi; cases hmi)]; exact hmi

theorem evs_rv {c : Cx} {σ : Nat → D} {a : Act} (ht : ∀ t, RV c (σ t) (a.tmps.getD t undef)) {x : Operand} {d : D} (h : ev σ x = some d) : RV c d (a.eval x) := by
  cases x with
  | tmp t => simp only [ev, Option.some.injEq] at h; subst h; exact ht t
  | const v => exact .cl (ofVal_rc h)
  | global g => simp [ev] at h
  | func f => simp only [ev, Option.some.injEq] at h; subst h; exact .cl (.clo .nil .nil)
theorem evsl_rv {c : Cx} {σ : Nat → D} {a : Act} (ht : ∀ t, RV c (σ t) (a.tmps.getD t undef)) : ∀ {xs : List Operand} {ds : List D}, evs σ xs = some ds → RVs c ds (xs.map a.eval)
  | [], ds, h => by simp only [evs, Option.some.injEq] at h; subst h; exact .nil
  | x :: xs, ds, h => by
    simp only [evs] at h
    split at h
    · rename_i d ds' h1 h2
      simp only [Option.some.injEq] at h; subst h
      exact .cons (evs_rv ht h1) (evsl_rv ht h2)
    · cases h
theorem semPure_run {α : Type} {P : Program} : ∀ {s : Sem α} {a : α}, semPure P s = some a → ∀ w, s.run P w = .ok a w := by
  intro s
  induction s with
  | pure a => intro b h w; simp only [semPure, Option.some.injEq] at h; subst h; rfl
  | program k ih => intro b h w; simp only [semPure] at h; simp only [Sem.run]; exact ih _ h w
  | _ => intro b h; simp [semPure] at h
end Go.Proofs.YtlpadffinfijgaaW.Vm
