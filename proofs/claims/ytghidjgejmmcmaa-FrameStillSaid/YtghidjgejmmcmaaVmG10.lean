/- What the program does with a frame: an instruction. No conditions. -/
import Derived.Test.YtghidjgejmmcmaaVmG9
import Derived.Test.YtghidjgejmmcmaaVmScope
set_option linter.unusedVariables false
set_option linter.unusedSimpArgs false
namespace Go.Proofs.YtghidjgejmmcmaaW.Rg
open Go.Proofs.YtghidjgejmmcmaaW.Vm Go.Proofs.YtghidjgejmmcmaaW.Md
open Go Go.Proofs
@[reducible] def encAc (c : Ac) (A : D) : D := .agg [I c.kind, I c.fn, I c.slot, I c.seed, A]
@[reducible] def zF : D := .agg [I 0, I 0, .snil, .snil, .snil, I 0, I 0, I 0, I 0, I 0, I 0, I 0, I 0, I 0, I 0, I 0]
@[reducible] def zA : D := .agg [I 0, I 0, I 0, I 0, .snil]
/-- a frame as a value -/
def IsF (d : D) (f : Fr) : Prop := ∃ a b c, d = frC f (encL 2 encV a) (encL 2 encV b) (encL 6 encSlt c) ∧ a.getD [] = f.stack ∧ b.getD [] = f.locals ∧ c.getD [] = f.slots
def IsA (d : D) (c : Ac) : Prop := ∃ a, d = encAc c (encL 2 encV a) ∧ a.getD [] = c.args
theorem src_enc {α : Type} {z : Nat} {e : α → D} (a : Option (List α)) : Src [] z ((a.getD []).map e) (encL z e a) := by
  cases a with
  | none => exact .inl ⟨rfl, rfl⟩
  | some l => exact .inr (.inl ⟨false, rfl⟩)
/-- the end of a step -/
theorem do_rest {H : List Ob} {r : Nat} {f : Fr} {P : D} {x : Instr} {c : Ac} {S L Z A : D} {w : Ob} (h : Rn [w, ⟨0, 16, [zF], 0⟩, ⟨0, 5, [zA], 0⟩] H r f P x c S L Z A) (σ : Nat → D) (h6 : σ 6 = .ptr r 0 0 0) (h4 : σ 4 = .ptr 1 0 0 0) (h5 : σ 5 = .ptr 2 0 0 0)
    {X : Type} (K : Ex × St → Option X) (Q : Option X → Prop)
    (hK : ∀ σ' H', σ' 4 = .ptr 1 0 0 0 → σ' 5 = .ptr 2 0 0 0 → H'[1]? = some ⟨0, 16, [frC f S L Z], 0⟩ → H'[2]? = some ⟨0, 5, [encAc c A], 0⟩ →
      IsS H' 2 (f.stack.map encV) S → IsS H' 2 (f.locals.map encV) L → IsS H' 6 (f.slots.map encSlt) Z → IsS H' 2 (c.args.map encV) A → Q (K (.ret, ⟨σ', H', 96⟩))) :
    Q ((W Try.prog cfg (restAt Try.f14 0) ⟨σ, H, 96⟩).bind K) := by
  have ho := h.o; have hlt := h.lt
  have h1 := h.pre 1 (by simp); have h2 := h.pre 2 (by simp)
  simp only [List.getElem?_cons_succ, List.getElem?_cons_zero] at h1 h2
  have hr := h.br
  simp only [List.length_cons, List.length_nil] at hr
  have s1 := h.s.one; have l1 := h.l.one; have z1 := h.z.one; have a1 := h.a.one
  have r1 : ¬ 1 = r := by omega
  have r2 : ¬ 2 = r := by omega
  have hl1 : 1 < H.length := by omega
  have hl2 : 2 < H.length := by omega
  have d := dr14_23
  simp [opsAt, opsIn, Try.f14] at d
  have w1 := Wdraw d
  clear d
  have g1 : ∀ o : Ob, (H.set 1 o)[2]? = some ⟨0, 5, [zA], 0⟩ := fun o => by rw [List.getElem?_set_ne (by decide), h2]
  have g2 : ∀ o : Ob, (H.set 1 o)[r]? = some ⟨0, 25, [rnC f S L Z P x c A], 0⟩ := fun o => by rw [List.getElem?_set_ne r1, ho]
  have bs : ∀ {z xs d}, IsS H z xs d → d.one = true → (∀ i, At d i → 3 ≤ i) → ∀ o o' : Ob, IsS ((H.set 1 o).set 2 o') z xs d := fun hd _ hi o o' =>
    (hd.set (fun h => by have := hi 1 h; omega) o).set (fun h => by have := hi 2 h; omega) o'
  have e3 : ∀ o o' : Ob, ((H.set 1 o).set 2 o')[1]? = some o := fun o o' => by rw [List.getElem?_set_ne (by decide), gs0 hl1]
  have e4 : ∀ o o' : Ob, ((H.set 1 o).set 2 o')[2]? = some o' := fun o o' => gs0 (by simpa using hl2) o'
  have bb := bs h.s s1 (fun i hi => h.bs i hi)
  have bl := bs h.l l1 (fun i hi => h.bl i hi)
  have bz := bs h.z z1 (fun i hi => h.bz i hi)
  have ba := bs h.a a1 (fun i hi => h.ba i hi)
  have qS : beq S S = true := by rcases h.s with ⟨e, _⟩ | ⟨e, _⟩ | ⟨_, _, _, e, _⟩ <;> rw [e] <;> simp
  have qL : beq L L = true := by rcases h.l with ⟨e, _⟩ | ⟨e, _⟩ | ⟨_, _, _, e, _⟩ <;> rw [e] <;> simp
  have qZ : beq Z Z = true := by rcases h.z with ⟨e, _⟩ | ⟨e, _⟩ | ⟨_, _, _, e, _⟩ <;> rw [e] <;> simp
  have qA : beq A A = true := by rcases h.a with ⟨e, _⟩ | ⟨e, _⟩ | ⟨_, _, _, e, _⟩ <;> rw [e] <;> simp
  conv => arg 1; arg 1; simp [restAt, scopeAt, scopeIn, findLabel, Try.f14, h6, h4, h5, ho, h1, h2, hl1, hl2, op_nilp, w1, s1, l1, z1, a1, g1, g2, qS, qL, qZ, qA, gs0 hl1, logL, loud, isE, drawChk, -getElem?_pos]
  exact hK _ _ (by simp [h4]) (by simp [h5]) (e3 _ _) (e4 _ _) (bb _ _) (bl _ _) (bz _ _) (ba _ _)
@[simp] theorem exN {h : List Ob} {b : Option (List Vl)} : exp1 h (encL 2 encV b) = some (encL 2 encV b) := exp_clean (by simp) (by simp)
theorem do_fin {H' : List Ob} {f : Fr} {c : Ac} {S L Z A : D} (σ' : Nat → D) (h4 : σ' 4 = .ptr 1 0 0 0) (h5 : σ' 5 = .ptr 2 0 0 0) (h1 : H'[1]? = some ⟨0, 16, [frC f S L Z], 0⟩) (h2 : H'[2]? = some ⟨0, 5, [encAc c A], 0⟩)
    (i1 : IsS H' 2 (f.stack.map encV) S) (i2 : IsS H' 2 (f.locals.map encV) L) (i3 : IsS H' 6 (f.slots.map encSlt) Z) (i4 : IsS H' 2 (c.args.map encV) A) :
    ∃ d1 d2, (endK Try.prog Try.f14 (.ret, ⟨σ', H', 96⟩)).bind finK = some (.tup [d1, d2]) ∧ IsF d1 f ∧ IsA d2 c := by
  obtain ⟨a, ea, ga⟩ := i1.exp' (cl_vals _)
  obtain ⟨b, eb, gb⟩ := i2.exp' (cl_vals _)
  obtain ⟨z, ez, gz⟩ := i3.exp' (cl_slts _)
  obtain ⟨k, ek, gk⟩ := i4.exp' (cl_vals _)
  refine ⟨frC f (encL 2 encV a) (encL 2 encV b) (encL 6 encSlt z), encAc c (encL 2 encV k), ?_, ⟨a, b, z, rfl, ga, gb, gz⟩, ⟨k, rfl, gk⟩⟩
  simp [h4, h5, h1, h2, ea, eb, ez, ek, Vm.results, -getElem?_pos]
end Go.Proofs.YtghidjgejmmcmaaW.Rg
