/- Frames of programs with which nothing is wrong. No conditions. -/
import Derived.Test.YtlpadffinfijgaaVmGF
set_option linter.unusedVariables false
set_option linter.unusedSimpArgs false
set_option maxRecDepth 10000
namespace Go.Proofs.YtlpadffinfijgaaW.Rg
open Go.Proofs.YtlpadffinfijgaaW.Vm Go.Proofs.YtlpadffinfijgaaW.Md
open Go Go.Proofs
/-- what an instruction leaves as it is -/
structure Still (f g : Fr) (c : Ac) : Prop where
  fn : g.fn = f.fn
  seed : g.seed = f.seed
  up : g.up = f.up
  upSlot : g.upSlot = f.upSlot
  loc : g.locals.length = f.locals.length
  slt : g.slots.length = f.slots.length
  sp : g.spawned = f.spawned ∨ c.kind = 2 ∧ g.spawned = IntKind.i64.wrap (f.spawned + 1)
  dr : g.draws = f.draws ∨ g.draws = IntKind.i64.wrap (f.draws + 1)
  ar : c.kind = 2 ∨ c.args = []
  en : c.kind ≠ 4 ∨ g.state = 2
theorem still_end (f : Fr) (o : Ou) : Still f (endF f o).1 (endF f o).2 := ⟨rfl, rfl, rfl, rfl, rfl, rfl, .inl rfl, .inl rfl, .inr rfl, .inr rfl⟩
theorem still_run (p : List Fu) (f : Fr) (x : Instr) : Still f (runX p f x).1 (runX p f x).2 := by
  unfold runX
  split
  · exact still_end f _
  split
  · exact ⟨rfl, rfl, rfl, rfl, rfl, rfl, .inl rfl, .inl rfl, .inr rfl, .inr rfl⟩
  split
  · unfold spawnF
    split
    · exact still_end f _
    · exact ⟨rfl, rfl, rfl, rfl, rfl, by simp [nextF, popF, setSlot], .inr ⟨rfl, rfl⟩, .inl rfl, .inl rfl, .inl (by simp)⟩
  split
  · unfold joinF
    split
    · exact ⟨rfl, rfl, rfl, rfl, rfl, rfl, .inl rfl, .inl rfl, .inr rfl, .inl (by simp [acN])⟩
    split
    · exact still_end f _
    split
    · exact ⟨rfl, rfl, rfl, rfl, rfl, by simp [trapF, endF, setSlot], .inl rfl, .inl rfl, .inr rfl, .inr rfl⟩
    · exact ⟨rfl, rfl, rfl, rfl, rfl, by simp [nextF, pushF, setSlot], .inl rfl, .inl rfl, .inr rfl, .inl (by simp [acN])⟩
  split
  · unfold twoF
    split
    · split
      · exact still_end f _
      · exact ⟨rfl, rfl, rfl, rfl, rfl, rfl, .inl rfl, .inl rfl, .inr rfl, .inl (by simp [acN])⟩
    · exact ⟨rfl, rfl, rfl, rfl, rfl, rfl, .inl rfl, .inl rfl, .inr rfl, .inl (by simp [acN])⟩
  · unfold plainF
    (repeat' split) <;> first
      | exact ⟨rfl, rfl, rfl, rfl, rfl, rfl, .inl rfl, .inl rfl, .inr rfl, .inl (by simp [acN])⟩
      | exact ⟨rfl, rfl, rfl, rfl, by simp [nextF, popF], rfl, .inl rfl, .inl rfl, .inr rfl, .inl (by simp [acN])⟩
      | exact ⟨rfl, rfl, rfl, rfl, rfl, rfl, .inl rfl, .inr rfl, .inr rfl, .inl (by simp [acN])⟩
theorem still_do (p : List Fu) (f : Fr) : Still f (doF p f).1 (doF p f).2 := by
  unfold doF
  split
  · exact ⟨rfl, rfl, rfl, rfl, rfl, rfl, .inl rfl, .inl rfl, .inr rfl, .inl (by simp [acN])⟩
  · split
    · exact still_end f _
    · split
      · exact still_run p f _
      · exact still_end f _
theorem do_none (p : List Fu) (f : Fr) (h : f.state ≠ 0) : doF p f = (f, acN 0) := by unfold doF; rw [if_pos (.inl h)]
theorem top_len (f : Fr) (n : Nat) : (topV f n).length ≤ f.stack.length := by unfold topV; simp
/-- how long the lists get -/
theorem do_len (p : List Fu) (f : Fr) : (doF p f).1.stack.length ≤ f.stack.length + 2 ∧ (doF p f).2.args.length ≤ f.stack.length := by
  have k1 : (trapF f 4).1.stack.length ≤ f.stack.length + 2 ∧ (trapF f 4).2.args.length ≤ f.stack.length := ⟨by simp [trapF, endF], by simp [trapF, endF, acN]⟩
  have kt : ∀ g c, g.stack.length ≤ f.stack.length + 2 → (trapF g c).1.stack.length ≤ f.stack.length + 2 ∧ (trapF g c).2.args.length ≤ f.stack.length := fun g c h => ⟨by simpa [trapF, endF] using h, by simp [trapF, endF, acN]⟩
  unfold doF
  split
  · exact ⟨by simp, by simp [acN]⟩
  · split
    · exact kt f 4 (by omega)
    · split
      · unfold runX
        split
        · exact kt f _ (by omega)
        split
        · exact ⟨by simp [endF, popF]; omega, by simp [endF, acN]⟩
        split
        · unfold spawnF
          split
          · exact kt f _ (by omega)
          · exact ⟨by simp [nextF, popF, setSlot]; omega, top_len f _⟩
        split
        · unfold joinF
          split
          · exact ⟨by simp, by simp [acN]⟩
          split
          · exact kt f _ (by omega)
          split
          · exact kt (setSlot f _ s0) _ (by simp [setSlot])
          · exact ⟨by simp [nextF, pushF, setSlot], by simp [acN]⟩
        split
        · unfold twoF
          split
          · split
            · exact kt f _ (by omega)
            · exact ⟨by simp [nextF, pushF, popF]; omega, by simp [acN]⟩
          · exact ⟨by simp [nextF, pushF, popF]; omega, by simp [acN]⟩
        · unfold plainF
          (repeat' split) <;> refine ⟨?_, by simp [acN]⟩ <;> simp [nextF, pushF, popF] <;> omega
      · exact kt f 3 (by omega)
/-- may an end be given to it? -/
def busyF (f : Fr) (i : Int) : Prop := 0 ≤ i ∧ i < f.slots.length ∧ (slotAt f i).state = 1
def gaveF (f : Fr) (i : Int) (o : Ou) : Fr := if f.state = 1 ∧ f.wait = i then { setSlot f i ⟨2, noK, o⟩ with state := 0, wait := 0 } else setSlot f i ⟨2, noK, o⟩
theorem give_busy {f : Fr} {i : Int} (o : Ou) (h : busyF f i) : giveF f i o = (gaveF f i o, true) := by
  unfold giveF gaveF; rw [if_neg (by obtain ⟨a, b, c⟩ := h; omega)]
theorem give_not {f : Fr} {i : Int} (o : Ou) (h : ¬ busyF f i) : giveF f i o = (f, false) := by
  unfold giveF; rw [if_pos]
  by_cases h1 : i < 0
  · exact .inl h1
  by_cases h2 : (f.slots.length : Int) ≤ i
  · exact .inr (.inl h2)
  · exact .inr (.inr fun h3 => h ⟨by omega, by omega, h3⟩)
theorem give_iff (f : Fr) (i : Int) (o : Ou) : (giveF f i o).2 = true ↔ busyF f i := by
  by_cases h : busyF f i
  · rw [give_busy o h]; simp [h]
  · rw [give_not o h]; simp [h]
theorem field_cases {np : Nat} {f : Fu} {x : Instr} (h : fieldE np f x = 0) :
    (x.op = 1 ∧ x.a < f.locals) ∨ (x.op = 2 ∧ x.a < f.locals) ∨ (x.op = 13 ∧ x.a < np ∧ x.b < f.slots) ∨ (x.op = 14 ∧ x.a < f.slots) ∨ (x.op ≠ 1 ∧ x.op ≠ 2 ∧ x.op ≠ 13 ∧ x.op ≠ 14) := by
  unfold fieldE at h
  by_cases h1 : x.op = 1
  · rw [if_pos (.inl h1)] at h; split at h
    · omega
    · exact .inl ⟨h1, by omega⟩
  by_cases h2 : x.op = 2
  · rw [if_pos (.inr h2)] at h; split at h
    · omega
    · exact .inr (.inl ⟨h2, by omega⟩)
  rw [if_neg (by omega)] at h
  by_cases h14 : x.op = 14
  · rw [if_pos h14] at h; split at h
    · omega
    · exact .inr (.inr (.inr (.inl ⟨h14, by omega⟩)))
  rw [if_neg h14] at h
  by_cases h13 : x.op = 13
  · rw [if_pos h13] at h; split at h
    · omega
    · split at h
      · omega
      · exact .inr (.inr (.inl ⟨h13, by omega, by omega⟩))
  exact .inr (.inr (.inr (.inr ⟨h1, h2, h13, h14⟩)))
/-- an instruction, a child's end given at once -/
def stepF (p : List Fu) (f : Fr) (o : Ou) : Fr × Int :=
  if (doF p f).2.kind = 2 then ((giveF (doF p f).1 (doF p f).2.slot o).1, 2) else ((doF p f).1, (doF p f).2.kind)
structure SafeI (n : Nat) (x : Fu) (ds : List Int) (seen : List Ou) (f : Fr) : Prop where
  fn : f.fn = n
  st : f.state = 0
  pc : 0 ≤ f.pc ∧ f.pc < ds.length
  dep : ds.getD f.pc.toNat (-1) = f.stack.length
  loc : (f.locals.length : Int) = x.locals
  slt : (f.slots.length : Int) = x.slots
  sl : ∀ s ∈ f.slots, s.state = 0 ∨ (s.state = 2 ∧ s.out ∈ seen)
/-- what a step ends with, or goes on with -/
def StepOk (n : Nat) (x : Fu) (ds : List Int) (seen : List Ou) (o : Ou) (r : Fr × Int) : Prop :=
  (r.2 = 4 ∧ r.1.state = 2 ∧ (r.1.out.trap = 3 ∨ r.1.out.trap = 4 → ∃ s ∈ seen, s.trap = r.1.out.trap)) ∨ ((r.2 = 1 ∨ r.2 = 2) ∧ SafeI n x ds (seen ++ [o]) r.1)
theorem step_kind {p : List Fu} {f : Fr} {o : Ou} {g : Fr} {c : Ac} (h : doF p f = (g, c)) (hk : c.kind ≠ 2) : stepF p f o = (g, c.kind) := by
  unfold stepF; rw [h]; rw [if_neg hk]
theorem set_sl {l : List Slt} {i : Nat} {s : Slt} {Q : Slt → Prop} (h : ∀ t ∈ l, Q t) (hs : Q s) : ∀ t ∈ l.set i s, Q t := by
  intro t ht
  rcases List.mem_or_eq_of_mem_set ht with h1 | h1
  · exact h t h1
  · rw [h1]; exact hs
theorem safe_step {p : List Fu} (hg : good p = true) {n : Nat} {x : Fu} (hx : p[n]? = some x) {seen : List Ou} {f : Fr} (I : SafeI n x (depthsOf p x) seen f) (o : Ou) :
    StepOk n x (depthsOf p x) seen o (stepF p f o) := by
  have hm := List.mem_of_getElem? hx
  obtain ⟨_, F⟩ := good_fin hg hm
  obtain ⟨hmay, hgf⟩ := good_iff.1 hg
  obtain ⟨_, hfe, _⟩ := hgf x hm
  have hfm := mayP_f hmay hm
  have hlen : (depthsOf p x).length = x.c.length := by rw [F.len, shapes_len]
  obtain ⟨m, hpm⟩ : ∃ m : Nat, f.pc = m := ⟨f.pc.toNat, by have := I.pc; omega⟩
  have hml : m < x.c.length := by have := I.pc; omega
  have hy : x.c[m]? = some x.c[m] := List.getElem?_eq_getElem hml
  have hym : x.c[m] ∈ x.c := List.getElem_mem hml
  generalize x.c[m] = y at hy hym
  have hsh : (shapes p x.c)[m]? = some ⟨offP p y, on6 y.op, nextP y m⟩ := by rw [shapes_get, hy]; rfl
  have hd := I.dep
  rw [hpm, Int.toNat_natCast] at hd
  obtain ⟨f1, f2, f3⟩ := F.safe m _ hsh (by rw [hd]; omega)
  simp only [hd] at f1 f2 f3
  have him := fmay_all hfm y hym
  have hi := imay_iff.1 him
  have ha := imay_a him
  have hfc := field_cases (hfe y hym)
  have hon := on6_le y.op
  have hoff0 : 0 ≤ offP p y := by
    unfold offP
    split
    · cases hq : p[y.a.toNat]? with
      | none => simp
      | some q => have := (fmay_head (mayP_f hmay (List.mem_of_getElem? hq))).1; simpa using this
    · exact (off6_le y.op).1
  have hco : codeOf p f.fn = x.c := by unfold codeOf; rw [I.fn, Int.toNat_natCast, hx]; rfl
  have hth : thereX p f y = true := by
    have hloc := I.loc; have hslt := I.slt
    unfold thereX
    rw [him, Bool.true_and]
    rcases hfc with h | h | h | h | h
    · rw [if_pos (.inl h.1)]; exact decide_eq_true (by omega)
    · rw [if_pos (.inr h.1)]; exact decide_eq_true (by omega)
    · rw [if_neg (by omega), if_neg (by omega), if_pos h.1]; simp only [Bool.and_eq_true, decide_eq_true_eq]; omega
    · rw [if_neg (by omega), if_pos h.1]; exact decide_eq_true (by omega)
    · rw [if_neg (by omega), if_neg (by omega), if_neg (by omega)]
  have hia : instrAt p f = some y := by
    unfold instrAt
    rw [if_pos (by omega), hco, hpm, Int.toNat_natCast, hy]
    simp only [hth, if_true]
  have hro : roomX p f y = true := by
    unfold roomX
    simp only [Bool.and_eq_true, Bool.or_eq_true, decide_eq_true_eq]
    exact ⟨⟨hoff0, f1⟩, by omega⟩
  have hdo : doF p f = runX p f y := by
    have hnl : n < p.length := (List.getElem?_eq_some_iff.1 hx).1
    unfold doF
    rw [if_neg (by have := I.fn; have := I.st; omega), hia]
    simp only [hro, if_true]
  -- how it goes on
  have mk : ∀ (g : Fr) (t : Nat), g.fn = f.fn → g.state = 0 → g.pc = t → t ∈ nextP y m → (g.stack.length : Int) = f.stack.length - offP p y + on6 y.op → g.locals.length = f.locals.length → g.slots.length = f.slots.length →
      (∀ s ∈ g.slots, s.state = 0 ∨ (s.state = 2 ∧ s.out ∈ seen ++ [o])) → SafeI n x (depthsOf p x) (seen ++ [o]) g := by
    intro g t e1 e2 e3 e4 e5 e6 e7 e8
    obtain ⟨q1, q2⟩ := f3 t e4
    rw [shapes_len] at q1
    exact ⟨by rw [e1, I.fn], e2, by rw [e3, hlen]; omega, by rw [e3, Int.toNat_natCast, q2, e5], by rw [e6, I.loc], by rw [e7, I.slt], e8⟩
  have sl' : ∀ s ∈ f.slots, s.state = 0 ∨ (s.state = 2 ∧ s.out ∈ seen ++ [o]) := fun s hs => by
    rcases I.sl s hs with h | h
    · exact .inl h
    · exact .inr ⟨h.1, List.mem_append_left _ h.2⟩
  have en : ∀ (g : Fr) (k : Int), doF p f = trapF g k → (k = 3 ∨ k = 4 → ∃ s ∈ seen, s.trap = k) → StepOk n x (depthsOf p x) seen o (stepF p f o) := by
    intro g k e1 e2
    rw [step_kind (g := (trapF g k).1) (c := acN 4) e1 (by decide)]
    exact .inl ⟨rfl, rfl, e2⟩
  have go : ∀ (g : Fr), doF p f = (g, acN 1) → SafeI n x (depthsOf p x) (seen ++ [o]) g → StepOk n x (depthsOf p x) seen o (stepF p f o) := by
    intro g e1 e2
    rw [step_kind (g := g) (c := acN 1) e1 (by decide)]
    exact .inr ⟨.inl rfl, e2⟩
  have hst : f.state = 0 := I.st
  unfold runX at hdo
  by_cases o16 : y.op = 16
  · rw [if_pos o16] at hdo
    exact en f y.a hdo (fun h => by have : 16 ≤ y.a := by have := hi.2.2.1; unfold leastA at this; rw [if_pos o16] at this; exact this
                                    omega)
  rw [if_neg o16] at hdo
  by_cases o15 : y.op = 15
  · rw [if_pos o15] at hdo
    rw [step_kind (g := (endF (popF f 1) ⟨0, a0 f 1⟩).1) (c := acN 4) hdo (by decide)]
    exact .inl ⟨rfl, rfl, fun h => by simp [endF] at h⟩
  rw [if_neg o15] at hdo
  have nx1 : y.op ≠ 10 → m + 1 ∈ nextP y m := fun h => by
    unfold nextP; rw [if_neg h, if_neg (by omega)]; split <;> simp
  by_cases o13 : y.op = 13
  · rw [if_pos o13] at hdo
    unfold spawnF at hdo
    have hsb : y.b < f.slots.length := by have := I.slt; rcases hfc with h | h | h | h | h <;> omega
    split at hdo
    · exact en f 2 hdo (fun h => by omega)
    · obtain ⟨b, hb⟩ : ∃ b : Nat, y.b = b := ⟨y.b.toNat, by omega⟩
      have hbl : b < f.slots.length := by omega
      have e2 : (doF p f).2.kind = 2 := by rw [hdo]
      have e3 : busyF (doF p f).1 (doF p f).2.slot := by
        rw [hdo]
        refine ⟨by show 0 ≤ y.b; omega, by simp [nextF, popF, setSlot]; omega, ?_⟩
        show (slotAt _ y.b).state = 1
        unfold slotAt
        simp only [nextF, popF, setSlot, hb, Int.toNat_natCast]
        rw [List.getElem?_set_self hbl]; rfl
      have e4 : stepF p f o = (gaveF (doF p f).1 y.b o, 2) := by
        have : (doF p f).2.slot = y.b := by rw [hdo]
        unfold stepF
        rw [if_pos e2, give_busy o e3, this]
      rw [e4]
      refine .inr ⟨.inr rfl, ?_⟩
      have e5 : gaveF (doF p f).1 y.b o = setSlot (doF p f).1 y.b ⟨2, noK, o⟩ := by
        unfold gaveF
        rw [if_neg]
        rw [hdo]
        simp [nextF, popF, setSlot, hst]
      rw [e5, hdo]
      have on0 : on6 y.op = 0 := by rw [o13]; rfl
      refine mk _ (m + 1) rfl (by simp [nextF, popF, setSlot, hst]) (by simp [nextF, popF, setSlot, hpm]) (nx1 (by omega)) ?_ rfl (by simp [nextF, popF, setSlot]) ?_
      · simp only [nextF, popF, setSlot, List.length_take, on0]
        omega
      · simp only [nextF, popF, setSlot]
        intro t ht
        have h9 : t ∈ f.slots.set y.b.toNat ⟨2, noK, o⟩ := by simpa [List.set_set] using ht
        exact set_sl (Q := fun s => s.state = 0 ∨ (s.state = 2 ∧ s.out ∈ seen ++ [o])) sl' (.inr ⟨rfl, by simp⟩) t h9
  rw [if_neg o13] at hdo
  have hoffE : offP p y = off6 y.op := by unfold offP; rw [if_neg o13]
  by_cases o14 : y.op = 14
  · rw [if_pos o14] at hdo
    have hsa : y.a < f.slots.length := by have := I.slt; rcases hfc with h | h | h | h | h <;> omega
    obtain ⟨b, hb⟩ : ∃ b : Nat, y.a = b := ⟨y.a.toNat, by omega⟩
    have hbl : b < f.slots.length := by omega
    have hsl := slotAt_get hbl y.a hb
    have hmem := I.sl f.slots[b] (List.getElem_mem hbl)
    unfold joinF at hdo
    rw [hsl] at hdo
    generalize f.slots[b] = s at *
    rw [if_neg (by omega)] at hdo
    split at hdo
    · exact en f 2 hdo (fun h => by omega)
    · rename_i hs2
      have hin : s.out ∈ seen := by rcases hmem with h | h <;> first | omega | exact h.2
      split at hdo
      · exact en _ s.out.trap hdo (fun _ => ⟨s.out, hin, rfl⟩)
      · refine go _ hdo (mk _ (m + 1) rfl (by simp [nextF, pushF, setSlot, hst]) (by simp [nextF, pushF, setSlot, hpm]) (nx1 (by omega)) ?_ rfl (by simp [nextF, pushF, setSlot]) ?_)
        · rw [hoffE, o14]
          simp [nextF, pushF, setSlot, off6, on6]
        · simp only [nextF, pushF, setSlot]
          exact set_sl sl' (.inl rfl)
  rw [if_neg o14] at hdo
  rw [hoffE] at f1
  by_cases oT : y.op = 3 ∨ y.op = 4 ∨ y.op = 5 ∨ y.op = 6
  · rw [if_pos oT] at hdo
    have h2 : off6 y.op = 2 := by unfold off6; rw [if_pos oT]
    have h1 : on6 y.op = 1 := by unfold on6; rw [if_neg (by omega), if_pos (by omega)]
    rw [h2] at f1
    unfold twoF at hdo
    have fin : ∀ q, doF p f = (nextF (pushF (popF f 2) [q]), acN 1) → StepOk n x (depthsOf p x) seen o (stepF p f o) := fun q hq =>
      go _ hq (mk _ (m + 1) rfl (by simp [nextF, pushF, popF, hst]) (by simp [nextF, pushF, popF, hpm]) (nx1 (by omega)) (by rw [hoffE, h1, h2]; simp [nextF, pushF, popF]; omega) rfl rfl sl')
    split at hdo
    · split at hdo
      · exact en f 1 hdo (fun h => by omega)
      · exact fin _ hdo
    · exact fin _ hdo
  rw [if_neg oT] at hdo
  unfold plainF at hdo
  by_cases p0 : y.op = 0
  · rw [if_pos p0] at hdo
    exact go _ hdo (mk _ (m + 1) rfl (by simp [nextF, pushF, hst]) (by simp [nextF, pushF, hpm]) (nx1 (by omega)) (by rw [hoffE, p0]; simp [nextF, pushF, off6, on6]) rfl rfl sl')
  rw [if_neg p0] at hdo
  by_cases p1 : y.op = 1
  · rw [if_pos p1] at hdo
    exact go _ hdo (mk _ (m + 1) rfl (by simp [nextF, pushF, hst]) (by simp [nextF, pushF, hpm]) (nx1 (by omega)) (by rw [hoffE, p1]; simp [nextF, pushF, off6, on6]) rfl rfl sl')
  rw [if_neg p1] at hdo
  by_cases p2 : y.op = 2
  · rw [if_pos p2] at hdo
    rw [p2] at f1; simp [off6] at f1
    exact go _ hdo (mk _ (m + 1) rfl (by simp [nextF, popF, hst]) (by simp [nextF, popF, hpm]) (nx1 (by omega)) (by rw [hoffE, p2]; simp [nextF, popF, off6, on6]; omega) (by simp [nextF, popF]) rfl sl')
  rw [if_neg p2] at hdo
  by_cases p7 : y.op = 7
  · rw [if_pos p7] at hdo
    rw [p7] at f1; simp [off6] at f1
    exact go _ hdo (mk _ (m + 1) rfl (by simp [nextF, pushF, popF, hst]) (by simp [nextF, pushF, popF, hpm]) (nx1 (by omega)) (by rw [hoffE, p7]; simp [nextF, pushF, popF, off6, on6]; omega) rfl rfl sl')
  rw [if_neg p7] at hdo
  by_cases p8 : y.op = 8
  · rw [if_pos p8] at hdo
    rw [p8] at f1; simp [off6] at f1
    exact go _ hdo (mk _ (m + 1) rfl (by simp [nextF, pushF, popF, hst]) (by simp [nextF, pushF, popF, hpm]) (nx1 (by omega)) (by rw [hoffE, p8]; simp [nextF, pushF, popF, off6, on6]; omega) rfl rfl sl')
  rw [if_neg p8] at hdo
  by_cases p9 : y.op = 9
  · rw [if_pos p9] at hdo
    rw [p9] at f1; simp [off6] at f1
    exact go _ hdo (mk _ (m + 1) rfl (by simp [nextF, popF, hst]) (by simp [nextF, popF, hpm]) (nx1 (by omega)) (by rw [hoffE, p9]; simp [nextF, popF, off6, on6]; omega) rfl rfl sl')
  rw [if_neg p9] at hdo
  by_cases p10 : y.op = 10
  · rw [if_pos p10] at hdo
    exact go _ hdo (mk _ y.a.toNat rfl hst (by simp; omega) (by unfold nextP; rw [if_pos p10]; simp) (by rw [hoffE, p10]; simp [off6, on6]) rfl rfl sl')
  rw [if_neg p10] at hdo
  by_cases p11 : y.op = 11
  · rw [if_pos p11] at hdo
    rw [p11] at f1; simp [off6] at f1
    split at hdo
    · exact go _ hdo (mk _ y.a.toNat rfl (by simp [popF, hst]) (by simp; omega) (by unfold nextP; rw [if_neg p10, if_neg (by omega), if_pos p11]; simp) (by rw [hoffE, p11]; simp [popF, off6, on6]; omega) rfl rfl sl')
    · exact go _ hdo (mk _ (m + 1) rfl (by simp [nextF, popF, hst]) (by simp [nextF, popF, hpm]) (nx1 (by omega)) (by rw [hoffE, p11]; simp [nextF, popF, off6, on6]; omega) rfl rfl sl')
  rw [if_neg p11] at hdo
  have p12 : y.op = 12 := by omega
  exact go _ hdo (mk _ (m + 1) rfl (by simp [nextF, pushF, hst]) (by simp [nextF, pushF, hpm]) (nx1 (by omega)) (by rw [hoffE, p12]; simp [nextF, pushF, off6, on6]) rfl rfl sl')
/-- how long a frame's lists are, while it is safe -/
theorem safe_len {p : List Fu} (hg : good p = true) {n : Nat} {x : Fu} (hx : p[n]? = some x) {seen : List Ou} {f : Fr} (I : SafeI n x (depthsOf p x) seen f) : f.stack.length ≤ 16 ∧ f.locals.length ≤ 16 ∧ f.slots.length ≤ 8 := by
  have hm := List.mem_of_getElem? hx
  obtain ⟨_, F⟩ := good_fin hg hm
  have hh := fmay_head (mayP_f (good_iff.1 hg).1 hm)
  have h1 := I.dep; have h2 := I.loc; have h3 := I.slt
  have h4 := F.rng f.pc.toNat
  omega
end Go.Proofs.YtlpadffinfijgaaW.Rg
