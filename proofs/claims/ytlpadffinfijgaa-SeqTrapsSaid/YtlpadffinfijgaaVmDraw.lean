/- A region whose order is open: whatever order is drawn, the end is that of the text's order. No conditions. -/
import Derived.Test.YtlpadffinfijgaaVmExec
import Derived.OrdersHeld
set_option linter.unusedVariables false
set_option linter.unusedSimpArgs false
namespace Go.Proofs.YtlpadffinfijgaaW.Vm
open Go Go.RowKit

section
variable {P : Program} {cfg : Cfg}

/-! what stands before -/
theorem before_foldl (l : List Oper) : ∀ (acc : Array Nat), (l.foldl (fun acc (o : Oper) => acc.push (o.after.foldl (fun s e => if Region.binds .any e then s ||| 2 ^ e.on ||| acc.getD e.on 0 else s) 0)) acc).size = acc.size + l.length ∧
    (∀ j, j < acc.size → (l.foldl (fun acc (o : Oper) => acc.push (o.after.foldl (fun s e => if Region.binds .any e then s ||| 2 ^ e.on ||| acc.getD e.on 0 else s) 0)) acc).getD j 0 = acc.getD j 0) ∧
    (∀ i o, l[i]? = some o → (∀ e ∈ o.after, Region.binds .any e = true → e.on < acc.size + i) →
      (l.foldl (fun acc (o : Oper) => acc.push (o.after.foldl (fun s e => if Region.binds .any e then s ||| 2 ^ e.on ||| acc.getD e.on 0 else s) 0)) acc).getD (acc.size + i) 0 =
        o.after.foldl (fun s e => if Region.binds .any e then s ||| 2 ^ e.on ||| (l.foldl (fun acc (o : Oper) => acc.push (o.after.foldl (fun s e => if Region.binds .any e then s ||| 2 ^ e.on ||| acc.getD e.on 0 else s) 0)) acc).getD e.on 0 else s) 0) := by
  induction l with
  | nil => intro acc; exact ⟨by simp, fun _ _ => rfl, fun i o h => by simp at h⟩
  | cons o l ih =>
    intro acc
    simp only [List.foldl_cons]
    obtain ⟨h1, h2, h3⟩ := ih (acc.push (o.after.foldl (fun s e => if Region.binds .any e then s ||| 2 ^ e.on ||| acc.getD e.on 0 else s) 0))
    generalize hF : l.foldl (fun acc (o : Oper) => acc.push (o.after.foldl (fun s e => if Region.binds .any e then s ||| 2 ^ e.on ||| acc.getD e.on 0 else s) 0)) (acc.push (o.after.foldl (fun s e => if Region.binds .any e then s ||| 2 ^ e.on ||| acc.getD e.on 0 else s) 0)) = F at *
    have hlow : ∀ j, j < acc.size → F.getD j 0 = acc.getD j 0 := fun j hj => by
      rw [h2 j (by simp; omega)]
      simp [Array.getElem?_push, Nat.ne_of_lt hj]
    refine ⟨by rw [h1]; simp; omega, hlow, fun i q hq he => ?_⟩
    cases i with
    | zero =>
      simp only [List.getElem?_cons_zero, Option.some.injEq] at hq; subst hq
      rw [Nat.add_zero, h2 acc.size (by simp)]
      simp only [Array.getD_eq_getD_getElem?, Array.getElem?_push, if_pos, Option.getD_some]
      rw [← Array.foldl_toList, ← Array.foldl_toList]
      have : ∀ (es : List Edge) (s : Nat), (∀ e ∈ es, Region.binds .any e = true → e.on < acc.size) →
          es.foldl (fun s e => if Region.binds .any e then s ||| 2 ^ e.on ||| acc[e.on]?.getD 0 else s) s = es.foldl (fun s e => if Region.binds .any e then s ||| 2 ^ e.on ||| F[e.on]?.getD 0 else s) s := by
        intro es
        induction es with
        | nil => intro s _; rfl
        | cons e es ihe =>
          intro s hes
          simp only [List.foldl_cons]
          rw [← ihe _ fun e' he' => hes e' (by simp [he'])]
          congr 1
          split
          · rename_i hb
            have := hlow e.on (hes e (by simp) hb)
            simp only [Array.getD_eq_getD_getElem?] at this
            rw [this]
          · rfl
      exact this _ _ fun e hm hb => by simpa using he e (by simpa using hm) hb
    | succ i =>
      have := h3 i q (by simpa using hq) (fun e hm hb => by have := he e hm hb; simp; omega)
      simp only [Array.size_push] at this
      rw [show acc.size + (i + 1) = acc.size + 1 + i by omega]
      exact this
theorem before_get {ops : Array Oper} (hlt : ∀ (i : Nat) o, ops[i]? = some o → ∀ e ∈ o.after, Region.binds .any e = true → e.on < i) {i : Nat} {o : Oper} (hi : ops[i]? = some o) {k : Nat}
    (hk : ((Region.before ops).getD i 0).testBit k = true) : ∃ e ∈ o.after, Region.binds .any e = true ∧ (e.on = k ∨ ((Region.before ops).getD e.on 0).testBit k = true) := by
  have hb : Region.before ops = ops.toList.foldl (fun acc (o : Oper) => acc.push (o.after.foldl (fun s e => if Region.binds .any e then s ||| 2 ^ e.on ||| acc.getD e.on 0 else s) 0)) #[] := by
    unfold Region.before
    rw [← Array.foldl_toList]
  obtain ⟨_, _, h3⟩ := before_foldl ops.toList #[]
  have := h3 i o (by simpa using hi) (fun e hm hb => by have := hlt i o hi e hm hb; simpa using this)
  rw [← hb] at this
  simp only [List.size_toArray, List.length_nil, Nat.zero_add] at this
  rw [this, ← Array.foldl_toList] at hk
  have key : ∀ (es : List Edge) (s : Nat), (es.foldl (fun s e => if Region.binds .any e then s ||| 2 ^ e.on ||| (Region.before ops).getD e.on 0 else s) s).testBit k = true → s.testBit k = true ∨
      ∃ e ∈ es, Region.binds .any e = true ∧ (e.on = k ∨ ((Region.before ops).getD e.on 0).testBit k = true) := by
    intro es
    induction es with
    | nil => intro s h; exact .inl h
    | cons e es ih =>
      intro s h
      simp only [List.foldl_cons] at h
      rcases ih _ h with h | ⟨e', h1, h2⟩
      · split at h
        · rename_i hbd
          simp only [Nat.testBit_or, Bool.or_eq_true] at h
          rcases h with (h | h) | h
          · exact .inl h
          · refine .inr ⟨e, by simp, hbd, .inl ?_⟩
            rw [Nat.testBit_two_pow] at h
            simpa using h
          · exact .inr ⟨e, by simp, hbd, .inr h⟩
        · exact .inl h
      · exact .inr ⟨e', by simp [h1], h2⟩
  rcases key _ _ hk with h | ⟨e, h1, h2⟩
  · simp at h
  · exact ⟨e, by simpa using h1, h2⟩

/-! what the look at a region tells -/
structure Info (P : Program) (cfg : Cfg) (ops : Array Oper) (un : List (Nat × Nat)) : Prop where
  on : ∀ (i : Nat) o, ops[i]? = some o → ∀ e ∈ o.after, Region.binds .any e = true → e.on < i
  pair : ∀ (i j : Nat) x y, ops[i]? = some x → ops[j]? = some y → i < j → ((Region.before ops).getD j 0).testBit i = true ∨ (¬ (isE P x = true ∧ isE P y = true) ∧ Oper.apart ops x y = true ∧ ¬ (isA cfg x = true ∧ loud P cfg y = true))
  un : ∀ (i j : Nat) x y, ops[i]? = some x → ops[j]? = some y → isL x = true → loud P cfg y = true → ordered (Region.before ops) i j = false → (i, j) ∈ un
theorem info_of {ops : Array Oper} {un : List (Nat × Nat)} (h : drawInfo P cfg ops = some un) : Info P cfg ops un := by
  unfold drawInfo at h
  simp only at h
  split at h
  · rename_i hc
    simp only [Option.some.injEq] at h
    simp only [Bool.and_eq_true, List.all_eq_true] at hc
    obtain ⟨h1, h2⟩ := hc
    have hm : ∀ (i : Nat) o, ops[i]? = some o → (o, i) ∈ ops.toList.zipIdx := fun i o ho => by
      rw [List.mem_zipIdx_iff_getElem?]; simpa using ho
    refine ⟨fun i o ho e he hb => ?_, fun i j x y hx hy hij => ?_, fun i j x y hx hy hl hld ho => ?_⟩
    · have := h1 _ (hm i o ho)
      simp only [Array.all_eq_true_iff_forall_mem, Bool.or_eq_true, Bool.not_eq_true', decide_eq_true_eq] at this
      exact (this e he).resolve_left (by simp [hb])
    · have := h2 _ (hm i x hx) _ (hm j y hy)
      simp only [hij, decide_true, Bool.not_true, Bool.false_or, Bool.or_eq_true, Bool.and_eq_true, Bool.not_eq_true', Bool.and_eq_false_iff] at this
      rcases this with h | ⟨⟨h, h'⟩, h''⟩
      · exact .inl h
      · refine .inr ⟨fun ⟨a, b⟩ => ?_, h', fun ⟨a, b⟩ => ?_⟩
        · rcases h with h | h <;> simp_all
        · rcases h'' with h | h <;> simp_all
    · rw [← h]
      refine List.mem_flatMap.2 ⟨(x, i), List.mem_filter.2 ⟨hm i x hx, hl⟩, List.mem_map.2 ⟨(y, j), List.mem_filter.2 ⟨hm j y hy, by simp [hld, ho]⟩, rfl⟩⟩
  · cases h

/-! one operation alone -/
theorem ev_congr {σ τ : Nat → D} {x : Operand} (h : ∀ t, x = .tmp t → σ t = τ t) : ev σ x = ev τ x := by
  cases x <;> simp [ev]
  exact h _ rfl
theorem evs_congr {σ τ : Nat → D} : ∀ {xs : List Operand}, (∀ t, .tmp t ∈ xs → σ t = τ t) → evs σ xs = evs τ xs
  | [], _ => rfl
  | x :: xs, h => by
    simp only [evs]
    rw [ev_congr (σ := σ) (τ := τ) fun t ht => h t (by simp [ht]), evs_congr fun t ht => h t (by simp [ht])]
theorem evps_congr {σ τ : Nat → D} : ∀ {xs : List (Nat × Operand)}, (∀ t, .tmp t ∈ xs.map (·.2) → σ t = τ t) → evps σ xs = evps τ xs
  | [], _ => rfl
  | (i, x) :: xs, h => by
    simp only [evps]
    rw [ev_congr (σ := σ) (τ := τ) fun t ht => h t (by simp [ht]), evps_congr fun t ht => h t (by simp at ht ⊢; exact .inr ht)]
theorem evo_congr {σ τ : Nat → D} {x : Option Operand} (h : ∀ t, x = some (.tmp t) → σ t = τ t) : evo σ x = evo τ x := by
  cases x with
  | none => rfl
  | some x => simp only [evo]; rw [ev_congr (σ := σ) (τ := τ) fun t ht => h t (by rw [ht])]
theorem evs_congr' {σ τ : Nat → D} : ∀ {xs : List Operand}, (∀ x ∈ xs, ev σ x = ev τ x) → evs σ xs = evs τ xs
  | [], _ => rfl
  | x :: xs, h => by
    simp only [evs]
    rw [h x (by simp), evs_congr' fun y hy => h y (by simp [hy])]
theorem evps_congr' {σ τ : Nat → D} : ∀ {xs : List (Nat × Operand)}, (∀ x ∈ xs, ev σ x.2 = ev τ x.2) → evps σ xs = evps τ xs
  | [], _ => rfl
  | (i, x) :: xs, h => by
    simp only [evps]
    rw [h (i, x) (by simp), evps_congr' fun y hy => h y (by simp [hy])]
theorem opD_congr {run : Run} {o : Oper} {σ τ : Nat → D} {h : List Ob} {n m : Nat} (hc : ∀ t, .tmp t ∈ o.op.operands.toList → σ t = τ t) : opD P cfg run o ⟨σ, h, n⟩ = opD P cfg run o ⟨τ, h, m⟩ := by
  have hx : ∀ x ∈ o.op.operands.toList, ev σ x = ev τ x := fun x hx => ev_congr fun t ht => hc t (ht ▸ hx)
  have hxo : ∀ x : Option Operand, (∀ y, x = some y → y ∈ o.op.operands.toList) → evo σ x = evo τ x := fun x h => evo_congr fun t ht => hc t (h _ ht)
  obtain ⟨dst, op, type, pos, after, guard⟩ := o
  cases op with
  | move x => simp only [opD]; rw [hx x (by simp [Op.operands])]
  | assign x => simp only [opD]; rw [hx x (by simp [Op.operands])]
  | pick x y z => simp only [opD]; rw [hx x (by simp [Op.operands]), hx y (by simp [Op.operands]), hx z (by simp [Op.operands])]
  | alloc t => rfl
  | box t x => simp only [opD]; rw [hx x (by simp [Op.operands])]
  | build t ps => simp only [opD]; rw [evps_congr' (τ := τ) fun x hx' => hx x.2 (by simp only [Op.operands]; simp; exact ⟨x.1, by simpa using hx'⟩)]
  | buildSlice t k ps => simp only [opD]; rw [evps_congr' (τ := τ) fun x hx' => hx x.2 (by simp only [Op.operands]; simp; exact ⟨x.1, by simpa using hx'⟩)]
  | load t x => simp only [opD]; rw [hx x (by simp [Op.operands])]
  | store t x y => simp only [opD]; rw [hx x (by simp [Op.operands]), hx y (by simp [Op.operands])]
  | nilCheck x => simp only [opD]; rw [hx x (by simp [Op.operands])]
  | binOp b t x y u => simp only [opD]; rw [hx x (by simp [Op.operands]), hx y (by simp [Op.operands])]
  | unOp b t x => simp only [opD]; rw [hx x (by simp [Op.operands])]
  | convert s d x => simp only [opD]; rw [hx x (by simp [Op.operands])]
  | makeInterface t x => simp only [opD]; rw [hx x (by simp [Op.operands])]
  | makeFunc f xs ys =>
    simp only [opD]
    rw [evs_congr' (σ := σ) (τ := τ) (xs := xs.toList) fun x hx' => hx x (by simp only [Op.operands, Array.toList_append]; exact List.mem_append_left _ hx'),
      evs_congr' (σ := σ) (τ := τ) (xs := ys.toList) fun x hx' => hx x (by simp only [Op.operands, Array.toList_append]; exact List.mem_append_right _ hx')]
  | makeSlice t x y => simp only [opD]; rw [hx x (by simp [Op.operands]), hx y (by simp [Op.operands])]
  | slice t x lo hi mx =>
    simp only [opD]
    rw [hx x (by simp [Op.operands]), hxo lo (by rintro y rfl; simp [Op.operands]), hxo hi (by rintro y rfl; simp [Op.operands]), hxo mx (by rintro y rfl; simp [Op.operands])]
  | fieldAddr t x f => simp only [opD]; rw [hx x (by simp [Op.operands])]
  | field t x f => simp only [opD]; rw [hx x (by simp [Op.operands])]
  | indexAddr t x y => simp only [opD]; rw [hx x (by simp [Op.operands]), hx y (by simp [Op.operands])]
  | index t x y => simp only [opD]; rw [hx x (by simp [Op.operands]), hx y (by simp [Op.operands])]
  | extract x i => simp only [opD]; rw [hx x (by simp [Op.operands])]
  | call c =>
    obtain ⟨callee, args, ats⟩ := c
    have ha : evs σ args.toList = evs τ args.toList := evs_congr' fun x hx' => hx x (by simp only [Op.operands, Call.operands, Array.toList_append]; exact List.mem_append_right _ hx')
    cases callee with
    | builtin b => simp only [opD, ha]; cases evs τ args.toList <;> rfl
    | invoke r m => simp only [opD, ha]
    | value f =>
      have hf : ev σ f = ev τ f := hx f (by simp [Op.operands, Call.operands])
      simp only [opD, ha]
      cases evs τ args.toList with
      | none => rfl
      | some as => simp only [hf]
  | _ => rfl

/-- an operation that looks at no memory -/
theorem pure_any {run : Run} {o : Oper} {σ : Nat → D} {h h2 h' : List Ob} {n : Nat} {d : D} (hE : isE P o = false) (hA : isA cfg o = false) (hL : isL o = false) (hop : opD P cfg run o ⟨σ, h, n⟩ = some (d, h')) :
    h' = h ∧ opD P cfg run o ⟨σ, h2, n⟩ = some (d, h2) := by
  obtain ⟨dst, op, type, pos, after, guard⟩ := o
  cases op <;> simp only [isE, isA, isL, reduceCtorEq, Bool.true_eq_false] at hE hA hL <;> simp only [opD] at hop ⊢
  case slice t x lo hi mx =>
    split at hop
    · rename_i p l1 l2 l3 hp e1 e2 e3
      try simp only [hp, e1, e2, e3]
      unfold sliceD at hop ⊢
      split at hop
      · (repeat' split at hop) <;> first | (cases hop; done) | (simp only [Option.map_eq_some_iff, Option.some.injEq, Prod.mk.injEq] at hop; first | (obtain ⟨_, h1, rfl, rfl⟩ := hop; simp_all; done) | (obtain ⟨rfl, rfl⟩ := hop; simp_all; done) | (simp_all; done))
      · (repeat' split at hop) <;> first | (cases hop; done) | (simp only [Option.map_eq_some_iff, Option.some.injEq, Prod.mk.injEq] at hop; first | (obtain ⟨_, h1, rfl, rfl⟩ := hop; simp_all; done) | (obtain ⟨rfl, rfl⟩ := hop; simp_all; done) | (simp_all; done))
      · (repeat' split at hop) <;> first | (cases hop; done) | (simp only [Option.map_eq_some_iff, Option.some.injEq, Prod.mk.injEq] at hop; first | (obtain ⟨_, h1, rfl, rfl⟩ := hop; simp_all; done) | (obtain ⟨rfl, rfl⟩ := hop; simp_all; done) | (simp_all; done))
      · (repeat' split at hop) <;> first | (cases hop; done) | (simp only [Option.map_eq_some_iff, Option.some.injEq, Prod.mk.injEq] at hop; first | (obtain ⟨_, h1, rfl, rfl⟩ := hop; simp_all; done) | (obtain ⟨rfl, rfl⟩ := hop; simp_all; done) | (simp_all; done))
      · rename_i hu; rw [hu] at hE; cases hE
      · cases hop
    · cases hop
  case buildSlice t k ps =>
    simp only [Bool.not_eq_false'] at hA
    simp only [hA, if_true] at hop ⊢
    (repeat' split at hop) <;> first | (cases hop; done) | skip
    rename_i hc
    simp only [Option.bind_eq_some_iff] at hop
    obtain ⟨els, h1, hop⟩ := hop
    split at hop
    · rename_i hcl
      simp only [Option.some.injEq, Prod.mk.injEq] at hop
      obtain ⟨rfl, rfl⟩ := hop
      simp_all
    · cases hop
  case call c =>
    split at hop
    · rename_i b args hcal hargs
      simp only [hcal] at hE
      try simp only [hcal, hargs]
      unfold builtinD at hop ⊢
      split at hop <;> (try simp only [reduceCtorEq, Bool.true_eq_false] at hE) <;> first | (simp only [Option.some.injEq, Prod.mk.injEq] at hop ⊢; first | exact ⟨hop.2.symm, hop.1, rfl⟩ | exact ⟨hop.2.symm, hop.1⟩ | (simp only [and_true]; exact ⟨hop.2.symm, hop.1⟩)) | ((repeat' split at hop) <;> first | (cases hop; done) | (simp only [Option.map_eq_some_iff, Option.some.injEq, Prod.mk.injEq] at hop; first | (obtain ⟨_, h1, rfl, rfl⟩ := hop; simp_all; done) | (obtain ⟨rfl, rfl⟩ := hop; simp_all; done) | (simp_all; done)))
    · rename_i f args hcal hargs
      simp [hcal] at hE
    · cases hop
  all_goals ((repeat' split at hop) <;> first | (cases hop; done) | (simp only [Option.map_eq_some_iff, Option.some.injEq, Prod.mk.injEq] at hop; first | (obtain ⟨_, h1, rfl, rfl⟩ := hop; simp_all; done) | (obtain ⟨rfl, rfl⟩ := hop; simp_all; done) | (simp_all; done)))

theorem A_ok {run : Run} {o : Oper} {σ : Nat → D} {h h' : List Ob} {n : Nat} {d : D} (hA : isA cfg o = true) (hop : opD P cfg run o ⟨σ, h, n⟩ = some (d, h')) :
    ∃ (z : Nat) (els : List D) (mk : Nat → D), h' = newOb h z els ∧ d = mk h.length ∧ ∀ (c : Cx) (a : Act), HR c → (∀ t, RV c (σ t) (a.tmps.getD t undef)) → ∀ id, FreeA c id z els → ∀ Q : Exit → Act → World → Prop,
      o.wp P a c.w (fun a' w' => ∃ v, a' = a.put o.dst v ∧ Al c id z els w' ∧ RV (addOb c id z els w') (mk id) v) Q := by
  unfold opD at hop
  simp only at hop
  unfold isA at hA
  split at hop
  case h_4 t ho =>
    split at hop
    · rename_i z s hz hsz
      split at hop
      · rename_i hc
        simp only [Option.some.injEq, Prod.mk.injEq] at hop
        obtain ⟨rfl, rfl⟩ := hop
        refine ⟨s, [z], fun id => .ptr id 0 0 0, rfl, rfl, fun c a hr ht id hf Q => ?_⟩
        obtain ⟨zv, h1, h2⟩ := run_zero (w := c.w) hz
        obtain ⟨v, w', h3, h4, h5⟩ := newVar_al (P := P) hr (RV.cl (ofVal_rc h2)) hc.1 hsz hc.2 hf
        unfold Oper.wp
        rw [show (execOp a.eval o).run P c.w = .ok (.value (.pointer (some v))) w' by simp [execOp, ho, Instr.alloc, h1, h3], Oper.upon_value]
        exact ⟨_, rfl, h4, h5⟩
      · cases hop
    · cases hop
  case h_5 t x ho =>
    split at hop
    · rename_i z s hz hsz
      split at hop
      · rename_i hc
        simp only [Option.some.injEq, Prod.mk.injEq] at hop
        obtain ⟨rfl, rfl⟩ := hop
        refine ⟨s, [z], fun id => .ptr id 0 0 0, rfl, rfl, fun c a hr ht id hf Q => ?_⟩
        obtain ⟨v, w', h3, h4, h5⟩ := newVar_al (P := P) hr (evs_rv ht hz) hc.1 hsz hc.2 hf
        unfold Oper.wp
        rw [show (execOp a.eval o).run P c.w = .ok (.value (.pointer (some v))) w' by simp [execOp, ho, Instr.box, h3], Oper.upon_value]
        exact ⟨_, rfl, h4, h5⟩
      · cases hop
    · cases hop
  case h_7 t k ps ho =>
    split at hop
    · rename_i ds e hds he
      split at hop
      · rename_i s g z hsz hg hz
        split at hop
        · rename_i hc
          rw [ho] at hA
          simp only [Bool.not_eq_true'] at hA
          rw [hA] at hop
          simp only [Bool.false_eq_true, if_false, Option.map_eq_some_iff, Prod.mk.injEq] at hop
          obtain ⟨els, h1, rfl, rfl⟩ := hop
          refine ⟨s, els, fun id => .own s id 0 0 k, rfl, rfl, fun c a hr ht id hf Q => ?_⟩
          obtain ⟨v, w', h3, h4, h5⟩ := buildSlice_al (P := P) hr ht hds he hsz hz hc.1 hc.2.1 hc.2.2 h1 hf
          unfold Oper.wp
          rw [show (execOp a.eval o).run P c.w = .ok (.value v) w' by simp only [execOp, ho]; simp [h3], Oper.upon_value]
          exact ⟨_, rfl, h4, h5⟩
        · cases hop
      · cases hop
    · cases hop
  case h_16 t l q ho =>
    split at hop
    · rename_i p q' hp hq
      unfold makeSliceD at hop
      split at hop
      · cases hop
      · rename_i e he
        split at hop
        · rename_i s by_ z n k hs hb hz hn hk
          split at hop
          · rename_i hcond
            obtain ⟨g1, g2, g3, g4, g5, g6⟩ := hcond
            simp only [Option.some.injEq, Prod.mk.injEq] at hop
            obtain ⟨rfl, rfl⟩ := hop
            refine ⟨s, List.replicate n z, fun id => .own s id 0 0 n, rfl, rfl, fun c a hr ht id hf Q => ?_⟩
            obtain ⟨v, w', h3, h4, h5⟩ := makeSlice_al (P := P) hr (evs_rv ht hp) (evs_rv ht hq) he hs hb hz hn hk g1 g2 g3 g4 g5 g6 hf
            unfold Oper.wp
            rw [show (execOp a.eval o).run P c.w = .ok (.value v) w' by simp [execOp, ho, h3], Oper.upon_value]
            exact ⟨_, rfl, h4, h5⟩
          · cases hop
        · cases hop
    · cases hop
  all_goals (first | (cases hop; done) | (rename_i ho; rw [ho] at hA; cases hA; done) | simp_all)

theorem L_ok {run : Run} {o : Oper} {σ : Nat → D} {h h' : List Ob} {n : Nat} {d : D} (hL : isL o = true) (hop : opD P cfg run o ⟨σ, h, n⟩ = some (d, h')) :
    h' = h ∧ ∃ t x p, o.op = .load t x ∧ ev σ x = some p ∧ ldD P h t p = some d ∧ ∀ (c : Cx) (a : Act), HR c → (∀ t, RV c (σ t) (a.tmps.getD t undef)) →
      (∀ id ver i j, p = .ptr id ver i j → ∃ q s g, c.hs id = some q ∧ q.ver = ver ∧ aggT P t = some g ∧ szT P t = some s ∧ ldEls q.els i j s g = some d) → ∀ Q : Exit → Act → World → Prop,
      o.wp P a c.w (fun a' w' => ∃ v, a' = a.put o.dst v ∧ w' = c.w ∧ RV c d v) Q := by
  unfold isL at hL
  split at hL
  · rename_i t x ho
    simp only [opD, ho] at hop
    split at hop
    · rename_i p hp
      simp only [Option.map_eq_some_iff, Prod.mk.injEq] at hop
      obtain ⟨d', h1, rfl, rfl⟩ := hop
      refine ⟨rfl, t, x, p, ho, hp, h1, fun c a hr ht hq Q => ?_⟩
      have hpv := evs_rv ht hp
      obtain ⟨u, h2, h3⟩ : ∃ u, (Instr.loadAt t (a.eval x)).run P c.w = .ok u c.w ∧ RV c d' u := by
        unfold ldD at h1
        split at h1
        · rename_i g s z xs i j ha hs
          unfold ldEls at h1
          split at h1
          · cases h1
          · rename_i e he
            obtain ⟨hz, b, off, hv, hrow⟩ := hpv.fptr'
            obtain ⟨k1, k2, k3⟩ := hrow.get he
            obtain ⟨u, h4, h5⟩ := run_ldEl ha hs k3.at h1
            exact ⟨u, by rw [hv]; simpa [Instr.loadAt, Instr.sureAddr] using h4, h5⟩
        · rename_i g s id ver i j ha hs
          obtain ⟨q, s', g', hq1, hq2, hq3, hq4, hq5⟩ := hq id ver i j rfl
          rw [ha] at hq3; cases hq3
          rw [hs] at hq4; cases hq4
          obtain ⟨b, base, hm, hv⟩ := hpv.ptr' hq1 hq2
          obtain ⟨o', cells, el, k1, k2, k3, k4, k5⟩ := hr.ob _ _ _ hm
          rw [hq1] at k1; cases k1
          unfold ldEls at hq5
          split at hq5
          · cases hq5
          · rename_i e he
            obtain ⟨u, h6, h7⟩ := run_ldEl ha hs (k5 i e he).at hq5
            exact ⟨u, by rw [hv]; simpa [Instr.loadAt, Instr.sureAddr] using h6, h7⟩
        · cases h1
      unfold Oper.wp
      rw [show (execOp a.eval o).run P c.w = .ok (.value u) c.w by simp [execOp, ho, h2], Oper.upon_value]
      exact ⟨u, rfl, rfl, h3⟩
    · cases hop
  · cases hL

theorem quiet_h {run : Run} {o : Oper} {σ : Nat → D} {h h' : List Ob} {n : Nat} {d : D} (hn : cfg.nomark = true) (hA : isA cfg o = false) (hl : loud P cfg o = false) (hop : opD P cfg run o ⟨σ, h, n⟩ = some (d, h')) : h' = h := by
  by_cases hL : isL o = true
  · exact (L_ok hL hop).1
  · by_cases hE : isE P o = true
    · unfold loud at hl
      rw [hE, Bool.true_and] at hl
      split at hl
      · rename_i c ho
        split at hl
        · rename_i g hcal
          simp only [opD, ho, hcal] at hop
          split at hop
          · rename_i h1 _; cases h1
          · rename_i f args h1 h2
            simp only [Callee.value.injEq] at h1; subst h1
            simp only [ev] at hop
            unfold callD at hop
            rw [if_neg (by simpa using hl)] at hop
            split at hop
            · split at hop
              · split at hop
                · split at hop
                  · simp only [Option.some.injEq, Prod.mk.injEq] at hop; exact hop.2.symm
                  · split at hop
                    · cases hop
                    · rename_i hm
                      simp only [hn, true_and, Bool.not_eq_false] at hm
                      simp only [Option.some.injEq, Prod.mk.injEq] at hop
                      rw [← hop.2]
                      have : ∀ ms : List (Nat × Nat), ms.isEmpty = true → ∀ h : List Ob, frzAll h ms = h := by
                        intro ms hms h
                        cases ms with
                        | nil => rfl
                        | cons => simp at hms
                      exact this _ (by simpa using hm) _
                · cases hop
              · cases hop
            · cases hop
          · cases hop
        · cases hl
      · cases hl
    · exact (pure_any (h2 := h) (by simpa using hE) hA (by simpa using hL) hop).1

/-! equal values are the same -/
mutual
theorem beq_eq : ∀ {a b : D}, beq a b = true → a = b
  | .int .., .int .., h => by simp [beq] at h; simp [h]
  | .bool .., .bool .., h => by simp [beq] at h; simp [h]
  | .str ⟨a⟩, .str ⟨b⟩, h => by simp [beq] at h; simp [h]
  | .flt .., .flt .., h => by simp [beq] at h; simp [h]
  | .cpx .., .cpx .., h => by simp [beq] at h; simp [h]
  | .agg a, .agg b, h => by simp only [beq] at h; rw [beqs_eq h]
  | .tup a, .tup b, h => by simp only [beq] at h; rw [beqs_eq h]
  | .nil, .nil, h => rfl
  | .ptr .., .ptr .., h => by simp [beq] at h; simp [h]
  | .sl z a t, .sl z' b u, h => by
    simp only [beq, Bool.and_eq_true, beq_iff_eq] at h
    rw [beqs_eq h.2, h.1.1, h.1.2]
  | .snil, .snil, h => rfl
  | .own .., .own .., h => by simp [beq] at h; simp [h]
  | .nilf, .nilf, h => rfl
  | .nili, .nili, h => rfl
theorem beqs_eq : ∀ {a b : List D}, beqs a b = true → a = b
  | [], [], _ => rfl
  | x :: a, y :: b, h => by
    simp only [beqs, Bool.and_eq_true] at h
    rw [beq_eq h.1, beqs_eq h.2]
  | [], _ :: _, h => by simp [beqs] at h
  | _ :: _, [], h => by simp [beqs] at h
end
theorem beqo_eq {a b : Option D} (h : beqo a b = true) : a = b := by
  cases a <;> cases b <;> simp [beqo] at h
  rw [beq_eq h]
end
end Go.Proofs.YtlpadffinfijgaaW.Vm
