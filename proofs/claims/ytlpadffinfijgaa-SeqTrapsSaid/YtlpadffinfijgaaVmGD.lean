/- What the program does with a frame: an instruction. No conditions. -/
import Derived.Test.YtlpadffinfijgaaVmGC
import Derived.Test.YtlpadffinfijgaaVmScope
set_option linter.unusedVariables false
set_option linter.unusedSimpArgs false
namespace Go.Proofs.YtlpadffinfijgaaW.Rg
open Go.Proofs.YtlpadffinfijgaaW.Vm Go.Proofs.YtlpadffinfijgaaW.Md
open Go Go.Proofs
@[reducible] def encAc (c : Ac) (A : D) : D := .agg [I c.kind, I c.fn, I c.slot, I c.seed, A]
@[reducible] def zF : D := .agg [I 0, I 0, .snil, .snil, .snil, I 0, I 0, I 0, I 0, I 0, I 0, I 0, I 0, I 0, I 0, I 0]
@[reducible] def zA : D := .agg [I 0, I 0, I 0, I 0, .snil]
/-- a frame as a value -/
def IsF (d : D) (f : Fr) : Prop := ∃ a b c, d = frC f (encL 2 encV a) (encL 2 encV b) (encL 6 encSlt c) ∧ a.getD [] = f.stack ∧ b.getD [] = f.locals ∧ c.getD [] = f.slots
def IsA (d : D) (c : Ac) : Prop := ∃ a, d = encAc c (encL 2 encV a) ∧ a.getD [] = c.args
theorem src_enc {α : Type} {z : Nat} {e : α → D} (a : Option (List α)) : Src [] z ((a.getD []).map e) (encL z e a) := by
  cases a with
  | none => exact .inl ⟨rfl, rfl⟩
  | some l => exact .inr (.inl ⟨false, rfl⟩)
/-- the end of a step -/
theorem do_rest {H : List Ob} {r : Nat} {f : Fr} {P : D} {x : Instr} {c : Ac} {S L Z A : D} {w : Ob} (h : Rn [w, ⟨0, 16, [zF], 0⟩, ⟨0, 5, [zA], 0⟩] H r f P x c S L Z A) (σ : Nat → D) (h6 : σ 6 = .ptr r 0 0 0) (h4 : σ 4 = .ptr 1 0 0 0) (h5 : σ 5 = .ptr 2 0 0 0)
    {X : Type} (K : Ex × St → Option X) (Q : Option X → Prop)
    (hK : ∀ σ' H', σ' 4 = .ptr 1 0 0 0 → σ' 5 = .ptr 2 0 0 0 → H'[1]? = some ⟨0, 16, [frC f S L Z], 0⟩ → H'[2]? = some ⟨0, 5, [encAc c A], 0⟩ →
      IsS H' 2 (f.stack.map encV) S → IsS H' 2 (f.locals.map encV) L → IsS H' 6 (f.slots.map encSlt) Z → IsS H' 2 (c.args.map encV) A → Q (K (.ret, ⟨σ', H', 96⟩))) :
    Q ((W Try.prog cfg (restAt Try.f38 0) ⟨σ, H, 96⟩).bind K) := by
  have ho := h.o; have hlt := h.lt
  have h1 := h.pre 1 (by simp); have h2 := h.pre 2 (by simp)
  simp only [List.getElem?_cons_succ, List.getElem?_cons_zero] at h1 h2
  have hr := h.br
  simp only [List.length_cons, List.length_nil] at hr
  have s1 := h.s.one; have l1 := h.l.one; have z1 := h.z.one; have a1 := h.a.one
  have r1 : ¬ 1 = r := by omega
  have r2 : ¬ 2 = r := by omega
  have hl1 : 1 < H.length := by omega
  have hl2 : 2 < H.length := by omega
  have d := dr38_23
  simp [opsAt, opsIn, Try.f38] at d
  have w1 := Wdraw d
  clear d
  have g1 : ∀ o : Ob, (H.set 1 o)[2]? = some ⟨0, 5, [zA], 0⟩ := fun o => by rw [List.getElem?_set_ne (by decide), h2]
  have g2 : ∀ o : Ob, (H.set 1 o)[r]? = some ⟨0, 25, [rnC f S L Z P x c A], 0⟩ := fun o => by rw [List.getElem?_set_ne r1, ho]
  have bs : ∀ {z xs d}, IsS H z xs d → d.one = true → (∀ i, At d i → 3 ≤ i) → ∀ o o' : Ob, IsS ((H.set 1 o).set 2 o') z xs d := fun hd _ hi o o' =>
    (hd.set (fun h => by have := hi 1 h; omega) o).set (fun h => by have := hi 2 h; omega) o'
  have e3 : ∀ o o' : Ob, ((H.set 1 o).set 2 o')[1]? = some o := fun o o' => by rw [List.getElem?_set_ne (by decide), gs0 hl1]
  have e4 : ∀ o o' : Ob, ((H.set 1 o).set 2 o')[2]? = some o' := fun o o' => gs0 (by simpa using hl2) o'
  have bb := bs h.s s1 (fun i hi => h.bs i hi)
  have bl := bs h.l l1 (fun i hi => h.bl i hi)
  have bz := bs h.z z1 (fun i hi => h.bz i hi)
  have ba := bs h.a a1 (fun i hi => h.ba i hi)
  have qS : beq S S = true := by rcases h.s with ⟨e, _⟩ | ⟨e, _⟩ | ⟨_, _, _, e, _⟩ <;> rw [e] <;> simp
  have qL : beq L L = true := by rcases h.l with ⟨e, _⟩ | ⟨e, _⟩ | ⟨_, _, _, e, _⟩ <;> rw [e] <;> simp
  have qZ : beq Z Z = true := by rcases h.z with ⟨e, _⟩ | ⟨e, _⟩ | ⟨_, _, _, e, _⟩ <;> rw [e] <;> simp
  have qA : beq A A = true := by rcases h.a with ⟨e, _⟩ | ⟨e, _⟩ | ⟨_, _, _, e, _⟩ <;> rw [e] <;> simp
  conv => arg 1; arg 1; simp [restAt, scopeAt, scopeIn, findLabel, Try.f38, h6, h4, h5, ho, h1, h2, hl1, hl2, op_nilp, w1, s1, l1, z1, a1, g1, g2, qS, qL, qZ, qA, gs0 hl1, logL, loud, isE, drawChk, -getElem?_pos]
  exact hK _ _ (by simp [h4]) (by simp [h5]) (e3 _ _) (e4 _ _) (bb _ _) (bl _ _) (bz _ _) (ba _ _)
@[simp] theorem exN {h : List Ob} {b : Option (List Vl)} : exp1 h (encL 2 encV b) = some (encL 2 encV b) := exp_clean (by simp) (by simp)
theorem do_fin {H' : List Ob} {f : Fr} {c : Ac} {S L Z A : D} (σ' : Nat → D) (h4 : σ' 4 = .ptr 1 0 0 0) (h5 : σ' 5 = .ptr 2 0 0 0) (h1 : H'[1]? = some ⟨0, 16, [frC f S L Z], 0⟩) (h2 : H'[2]? = some ⟨0, 5, [encAc c A], 0⟩)
    (i1 : IsS H' 2 (f.stack.map encV) S) (i2 : IsS H' 2 (f.locals.map encV) L) (i3 : IsS H' 6 (f.slots.map encSlt) Z) (i4 : IsS H' 2 (c.args.map encV) A) :
    ∃ d1 d2, (endK Try.prog Try.f38 (.ret, ⟨σ', H', 96⟩)).bind finK = some (.tup [d1, d2]) ∧ IsF d1 f ∧ IsA d2 c := by
  obtain ⟨a, ea, ga⟩ := i1.exp' (cl_vals _)
  obtain ⟨b, eb, gb⟩ := i2.exp' (cl_vals _)
  obtain ⟨z, ez, gz⟩ := i3.exp' (cl_slts _)
  obtain ⟨k, ek, gk⟩ := i4.exp' (cl_vals _)
  refine ⟨frC f (encL 2 encV a) (encL 2 encV b) (encL 6 encSlt z), encAc c (encL 2 encV k), ?_, ⟨a, b, z, rfl, ga, gb, gz⟩, ⟨k, rfl, gk⟩⟩
  simp [h4, h5, h1, h2, ea, eb, ez, ek, Vm.results, -getElem?_pos]
end Go.Proofs.YtlpadffinfijgaaW.Rg
set_option linter.unusedVariables false
set_option linter.unusedSimpArgs false
namespace Go.Proofs.YtlpadffinfijgaaW.Rg
open Go.Proofs.YtlpadffinfijgaaW.Vm Go.Proofs.YtlpadffinfijgaaW.Md
open Go Go.Proofs
def sq1 : Code → Code
  | .seq a _ => a
  | c => c
def sq2 : Code → Code
  | .seq _ b => b
  | c => c
noncomputable def doB : Code := scopeAt Try.f38
noncomputable def doR : Code := sq2 (restAt Try.f38 0)
theorem do_lab : findLabel (scopeAt Try.f38) 0 = some (restAt Try.f38 0) := by kernel_rfl
theorem do_R : restAt Try.f38 0 = .seq .skip doR := by kernel_rfl
theorem do_body : Try.f38.body.getD .skip = .seq (sq1 (Try.f38.body.getD .skip)) (.scope (scopeAt Try.f38)) := by kernel_rfl
theorem do_B : scopeAt Try.f38 = .seq (sq1 doB) (.seq (sq1 (sq2 doB)) (.seq (sq1 (sq2 (sq2 doB))) (.seq (sq1 (sq2 (sq2 (sq2 doB)))) (.seq (.label 0) doR)))) := by kernel_rfl
theorem do_W (st : St) : W Try.prog cfg doR st = W Try.prog cfg (restAt Try.f38 0) st := by
  rw [do_R, Wseq, W_skip, Option.bind_some, seqK_normal]
/-- the step runs on the parameters -/
theorem do_start (p : Option (List Fu)) (f : Fr) (a b : Option (List Vl)) (z : Option (List Slt)) : fnc Try.prog cfg R 38 [encProg p, frC f (encL 2 encV a) (encL 2 encV b) (encL 6 encSlt z)] =
    ((SC Try.prog cfg (scopeAt Try.f38) (scopeAt Try.f38) ⟨upd (upd (upd (argsσ [encProg p, frC f (encL 2 encV a) (encL 2 encV b) (encL 6 encSlt z)]) 3 (.ptr 0 0 0 0)) 4 (.ptr 1 0 0 0)) 5 (.ptr 2 0 0 0),
      [⟨0, 16, [frC f (encL 2 encV a) (encL 2 encV b) (encL 6 encSlt z)], 0⟩, ⟨0, 16, [zF], 0⟩, ⟨0, 5, [zA], 0⟩], 96⟩).bind (endK Try.prog Try.f38)).bind finK := by
  rw [fnc_at rfl, body_eq Try.func38 rfl rfl]
  congr 1
  congr 1
  show W Try.prog cfg (Try.f38.body.getD .skip) _ = _
  rw [do_body, Wseq]
  have q1 : argsσ [encProg p, frC f (encL 2 encV a) (encL 2 encV b) (encL 6 encSlt z)] 1 = frC f (encL 2 encV a) (encL 2 encV b) (encL 6 encSlt z) := rfl
  conv => lhs; arg 1; simp [sq1, Try.f38, q1]
  rw [Option.bind_some, seqK_normal, Wscope]
theorem do_early (p : Option (List Fu)) (f : Fr) (a b : Option (List Vl)) (z : Option (List Slt)) (ha : a.getD [] = f.stack) (hb : b.getD [] = f.locals) (hz : z.getD [] = f.slots) (h : f.state ≠ 0 ∨ f.fn < 0 ∨ ((p.getD []).length : Int) ≤ f.fn) :
    ∃ d1 d2, fnc Try.prog cfg R 38 [encProg p, frC f (encL 2 encV a) (encL 2 encV b) (encL 6 encSlt z)] = some (.tup [d1, d2]) ∧ IsF d1 f ∧ IsA d2 (acN 0) := by
  refine ⟨frC f (encL 2 encV a) (encL 2 encV b) (encL 6 encSlt z), zA, ?_, ⟨a, b, z, rfl, ha, hb, hz⟩, ⟨none, rfl, rfl⟩⟩
  have ez : ∀ h : List Ob, exp1 h (encL 6 encSlt z) = some (encL 6 encSlt z) := fun h => exp_clean (by simp) (by simp)
  rw [do_start, SC_eq]
  cases k1 : decide (f.state = 0)
  · conv => lhs; arg 1; arg 1; arg 1; rw [do_B]; simp [sq1, sq2, doB, scopeAt, scopeIn, Try.f38, argsσ, k1]
    simp [scopeK_ret, Vm.results, ez]
  cases k2 : decide (f.fn < 0)
  · have k3 : decide (((p.getD []).length : Int) ≤ f.fn) = true := dt (by have := of_decide_eq_true k1; have := of_decide_eq_false k2; omega)
    conv => lhs; arg 1; arg 1; arg 1; rw [do_B]; simp [sq1, sq2, doB, scopeAt, scopeIn, Try.f38, argsσ, k1, k2, k3]
    simp [scopeK_ret, Vm.results, ez]
  · conv => lhs; arg 1; arg 1; arg 1; rw [do_B]; simp [sq1, sq2, doB, scopeAt, scopeIn, Try.f38, argsσ, k1, k2]
    simp [scopeK_ret, Vm.results, ez]
/-- what a step answers -/
def Qd (f : Fr) (c : Ac) (o : Option D) : Prop := ∃ d1 d2, o = some (.tup [d1, d2]) ∧ IsF d1 f ∧ IsA d2 c
theorem do_close {H : List Ob} {r : Nat} {f : Fr} {P : D} {x : Instr} {c : Ac} {S L Z A : D} {w : Ob} (h : Rn [w, ⟨0, 16, [zF], 0⟩, ⟨0, 5, [zA], 0⟩] H r f P x c S L Z A) (σ : Nat → D) (h6 : σ 6 = .ptr r 0 0 0) (h4 : σ 4 = .ptr 1 0 0 0) (h5 : σ 5 = .ptr 2 0 0 0) :
    Qd f c (((SC Try.prog cfg (scopeAt Try.f38) (restAt Try.f38 0) ⟨σ, H, 96⟩).bind (endK Try.prog Try.f38)).bind finK) := by
  rw [SC_eq]
  simp only [Option.bind_assoc]
  refine do_rest h σ h6 h4 h5 _ (Qd f c) ?_
  intro σ' H' t4 t5 e1 e2 i1 i2 i3 i4
  rw [scopeK_ret, Option.bind_some]
  exact do_fin σ' t4 t5 e1 e2 i1 i2 i3 i4
theorem do_close2 {H : List Ob} {r : Nat} {f : Fr} {P : D} {x : Instr} {c : Ac} {S L Z A : D} {w : Ob} (h : Rn [w, ⟨0, 16, [zF], 0⟩, ⟨0, 5, [zA], 0⟩] H r f P x c S L Z A) (σ : Nat → D) (h6 : σ 6 = .ptr r 0 0 0) (h4 : σ 4 = .ptr 1 0 0 0) (h5 : σ 5 = .ptr 2 0 0 0) :
    Qd f c ((((W Try.prog cfg doR ⟨σ, H, 96⟩).bind (scopeK Try.prog cfg (scopeAt Try.f38))).bind (endK Try.prog Try.f38)).bind finK) := by
  rw [do_W, ← SC_eq]
  exact do_close h σ h6 h4 h5
set_option maxHeartbeats 1600000 in
theorem do_main (p : Option (List Fu)) (f : Fr) (a b : Option (List Vl)) (z : Option (List Slt)) (ha : a.getD [] = f.stack) (hb : b.getD [] = f.locals) (hz : z.getD [] = f.slots) (h0 : f.state = 0) (n : Nat) (hfn : f.fn = n) (f2 : Fu) (hf2 : (p.getD [])[n]? = some f2)
    (hl1 : f.stack.length ≤ 2 ^ 40) (hl2 : f.locals.length ≤ 2 ^ 40) (hl3 : f.slots.length ≤ 2 ^ 40) (hcl : f2.c.length < 2 ^ 62) :
    Qd (doF (p.getD []) f).1 (doF (p.getD []) f).2 (fnc Try.prog cfg R 38 [encProg p, frC f (encL 2 encV a) (encL 2 encV b) (encL 6 encSlt z)]) := by
  have hn : n < (p.getD []).length := (List.getElem?_eq_some_iff.1 hf2).1
  have hix := idxD_nat .i64 hn
  obtain ⟨w, hw⟩ : ∃ w : Ob, w = ⟨0, 16, [frC f (encL 2 encV a) (encL 2 encV b) (encL 6 encSlt z)], 0⟩ := ⟨_, rfl⟩
  obtain ⟨S, L, Z, t, ec, iS, iL, iZ, dSL, dSZ, dLZ, lo⟩ := cloneF_spec f (H := [w, ⟨0, 16, [zF], 0⟩, ⟨0, 5, [zA], 0⟩]) (by rw [← ha]; exact src_enc a) (by rw [← hb]; exact src_enc b) (by rw [← hz]; exact src_enc z) hl1 hl2 hl3
  simp only [List.length_cons, List.length_nil] at lo
  have e1 := iS.one; have e2 := iL.one; have e3 := iZ.one
  have c1 := iS.cells; have c2 := iL.cells; have c3 := iZ.cells
  obtain ⟨r, hr⟩ : ∃ r, t.length + 1 + 1 + 1 = r := ⟨_, rfl⟩
  obtain ⟨H0, hH0⟩ : ∃ H0 : List Ob, w :: ⟨0, 16, [zF], 0⟩ :: ⟨0, 5, [zA], 0⟩ :: (t ++ [⟨0, 25, [.agg [I f.fn, I f.pc, S, L, Z, I f.seed, I f.spawned, I f.draws, I f.state, I f.wait, I f.out.trap, I f.out.v.re, I f.out.v.im, I f.up.ag, I f.up.gen, I f.upSlot, encProg p, I 0, I 0, I 0, I 1, I 0, I 0, I 0, .snil]], 0⟩]) = H0 := ⟨_, rfl⟩
  have eH : H0 = [w, ⟨0, 16, [zF], 0⟩, ⟨0, 5, [zA], 0⟩] ++ t ++ [⟨0, 25, [rnC f S L Z (encProg p) ⟨0, 0, 0⟩ (acN 1) .snil], 0⟩] := by rw [← hH0]; simp [acN]
  have nS : ∀ {zz xs d}, IsS ([w, ⟨0, 16, [zF], 0⟩, ⟨0, 5, [zA], 0⟩] ++ t) zz xs d → ¬ At d r := fun hd hr2 => by have := hd.lt hr2; simp at this; omega
  have R0 : Rn [w, ⟨0, 16, [zF], 0⟩, ⟨0, 5, [zA], 0⟩] H0 r f (encProg p) ⟨0, 0, 0⟩ (acN 1) S L Z .snil := by
    rw [eH]
    refine ⟨?_, iS.app _, iL.app _, iZ.app _, .inl ⟨rfl, rfl⟩, nS iS, nS iL, nS iZ, at_snil r, dSL, dSZ, fun i _ => at_snil i, dLZ, fun i _ => at_snil i, fun i _ => at_snil i, ?_, by simp; omega, fun i hi => lo i (.inl hi), fun i hi => lo i (.inr (.inl hi)), fun i hi => lo i (.inr (.inr hi)), fun i hi => absurd hi (at_snil i)⟩
    · rw [List.getElem?_append_right (by simp; omega)]
      have : r - ([w, ⟨0, 16, [zF], 0⟩, ⟨0, 5, [zA], 0⟩] ++ t).length = 0 := by simp; omega
      rw [this]; rfl
    · intro i hi
      rw [List.append_assoc, List.getElem?_append_left hi]
  have q0 : argsσ [encProg p, frC f (encL 2 encV a) (encL 2 encV b) (encL 6 encSlt z)] 0 = encProg p := rfl
  have k0 : decide (f.state = 0) = true := dt h0
  have k1 : decide (f.fn < 0) = false := df (by omega)
  have k2 : decide (((p.getD []).length : Int) ≤ f.fn) = false := df (by omega)
  have hix' : idxD (p.getD []).length (I f.fn) = some n := by rw [hfn]; exact hix
  have hco : codeOf (p.getD []) f.fn = f2.code.getD [] := by unfold codeOf; rw [hfn, Int.toNat_natCast, hf2]; rfl
  have hcl2 : (f2.code.getD []).length < 2 ^ 62 := hcl
  have hdo : doF (p.getD []) f = match instrAt (p.getD []) f with | none => trapF f 4 | some x => if roomX (p.getD []) f x then runX (p.getD []) f x else trapF f 3 := by
    unfold doF; rw [if_neg (by omega)]
    cases instrAt (p.getD []) f <;> rfl
  subst hw
  rw [hdo, do_start, SC_eq]
  have hg0 : H0[0]? = some ⟨0, 16, [frC f (encL 2 encV a) (encL 2 encV b) (encL 6 encSlt z)], 0⟩ := by rw [← hH0]; rfl
  -- what the instruction is
  by_cases hp : f.pc < 0 ∨ ((f2.code.getD []).length : Int) ≤ f.pc
  · have hT := there_none p f2.code R0 hp
    obtain ⟨H1, eT, R1⟩ := trap_spec R0 4
    have hI : instrAt (p.getD []) f = none := by
      unfold instrAt
      split
      · rw [hco, List.getElem?_eq_none (by omega)]
      · rfl
    rw [hI]
    conv => arg 3; arg 1; arg 1; arg 1; rw [do_B]; simp [sq1, sq2, doB, scopeAt, scopeIn, Try.f38, q0, k0, k1, k2, ec, e1, e2, e3, c1, c2, c3, hix', hf2, hH0, hr, hg0, hT, eT, W_goto, seqK_goto, blockK_goto, -getElem?_pos]
    rw [Option.bind_some, scopeK_goto _ _ _ do_lab]
    exact do_close R1 _ (by simp) (by simp) (by simp)
  obtain ⟨m, hm⟩ : ∃ m : Nat, f.pc = m := ⟨f.pc.toNat, by omega⟩
  have hml : m < (f2.code.getD []).length := by omega
  have hy : (f2.code.getD [])[m]? = some (f2.code.getD [])[m] := List.getElem?_eq_getElem hml
  generalize (f2.code.getD [])[m] = y at hy
  obtain ⟨H1, x1, hT, R1, hx1⟩ := there_some p f2.code R0 m hm y hy
  have hI : instrAt (p.getD []) f = if thereX (p.getD []) f y = true then some y else none := by
    unfold instrAt
    rw [if_pos (by omega), hco, hm, Int.toNat_natCast, hy]
  rw [hI]
  cases kT : thereX (p.getD []) f y
  · rw [kT] at hT
    obtain ⟨H2, eT, R2⟩ := trap_spec R1 4
    conv => arg 3; arg 1; arg 1; arg 1; rw [do_B]; simp [sq1, sq2, doB, scopeAt, scopeIn, Try.f38, q0, k0, k1, k2, ec, e1, e2, e3, c1, c2, c3, hix', hf2, hH0, hr, hg0, hT, eT, W_goto, seqK_goto, blockK_goto, -getElem?_pos]
    rw [Option.bind_some, scopeK_goto _ _ _ do_lab]
    exact do_close R2 _ (by simp) (by simp) (by simp)
  obtain rfl := hx1 kT
  rw [kT] at hT
  have hmay : imay x1 = true := by unfold thereX at kT; simp only [Bool.and_eq_true] at kT; exact kT.1
  have hloc : x1.op = 1 ∨ x1.op = 2 → x1.a < f.locals.length := fun h => by
    unfold thereX at kT; rw [if_pos h] at kT; simp only [Bool.and_eq_true, decide_eq_true_eq] at kT; exact kT.2
  have hslt : x1.op = 14 → x1.a < f.slots.length := fun h => by
    unfold thereX at kT; rw [if_neg (by omega), if_pos h] at kT; simp only [Bool.and_eq_true, decide_eq_true_eq] at kT; exact kT.2
  have hsp : x1.op = 13 → x1.a < (p.getD []).length ∧ x1.b < f.slots.length := fun h => by
    unfold thereX at kT; rw [if_neg (by omega), if_neg (by omega), if_pos h] at kT; simp only [Bool.and_eq_true, decide_eq_true_eq] at kT; exact kT.2
  have hR := room_spec p R1 hmay (fun h => (hsp h).1) hl1
  simp only [if_true]
  cases kR : roomX (p.getD []) f x1
  · rw [kR] at hR
    obtain ⟨H2, eT, R2⟩ := trap_spec R1 3
    conv => arg 3; arg 1; arg 1; arg 1; rw [do_B]; simp [sq1, sq2, doB, scopeAt, scopeIn, Try.f38, q0, k0, k1, k2, ec, e1, e2, e3, c1, c2, c3, hix', hf2, hH0, hr, hg0, hT, hR, eT, W_goto, seqK_goto, blockK_goto, -getElem?_pos]
    rw [Option.bind_some, scopeK_goto _ _ _ do_lab]
    exact do_close R2 _ (by simp) (by simp) (by simp)
  rw [kR] at hR
  have ho1 := R1.o
  have hpc : 0 ≤ f.pc ∧ f.pc < 2 ^ 62 := by omega
  have hoff : 0 ≤ offP (p.getD []) x1 ∧ offP (p.getD []) x1 ≤ f.stack.length := by
    unfold roomX at kR; simp only [Bool.and_eq_true, decide_eq_true_eq] at kR; exact kR.1
  have hoff6 : x1.op ≠ 13 → off6 x1.op ≤ f.stack.length := fun h => by have := hoff; unfold offP at this; rw [if_neg h] at this; exact this.2
  simp only [if_true]
  unfold runX
  by_cases o16 : x1.op = 16
  · rw [if_pos o16]
    obtain ⟨H2, eT, R2⟩ := trap_spec R1 x1.a
    have d16 : decide (x1.op = 16) = true := dt o16
    conv => arg 3; arg 1; arg 1; arg 1; rw [do_B]; simp [sq1, sq2, doB, scopeAt, scopeIn, Try.f38, q0, k0, k1, k2, ec, e1, e2, e3, c1, c2, c3, hix', hf2, hH0, hr, hg0, hT, hR, ho1, op_nilp, d16, eT, W_label, W_goto, seqK_goto, blockK_goto, -getElem?_pos]
    exact do_close2 R2 _ (by simp) (by simp) (by simp)
  rw [if_neg o16]
  have d16 : decide (x1.op = 16) = false := df o16
  by_cases o15 : x1.op = 15
  · rw [if_pos o15]
    have d15 : decide (x1.op = 15) = true := dt o15
    obtain ⟨H2, S2, id, ver, rest, eP, R2, hh, _⟩ := pop1 R1 (by have := hoff6 (by omega); unfold off6 at this; simp [o15] at this; omega) hl1
    generalize a0 f 1 = u at *
    obtain ⟨H3, eE, R3⟩ := end_spec R2 ⟨0, u⟩
    have eE' : body Try.prog R 60 [.ptr r 0 0 0, .agg [I 0, I u.re, I u.im]] H2 = some (.tup [], H3) := eE
    have y0 : idxD 1 (D.int .i64 0) = some 0 := rfl
    conv => arg 3; arg 1; arg 1; arg 1; rw [do_B]; simp [sq1, sq2, doB, scopeAt, scopeIn, Try.f38, q0, k0, k1, k2, ec, e1, e2, e3, c1, c2, c3, hix', hf2, hH0, hr, hg0, hT, hR, ho1, op_nilp, d16, d15, eP, y0, hh, eE', W_label, W_goto, seqK_goto, blockK_goto, -getElem?_pos]
    exact do_close2 R3 _ (by simp) (by simp) (by simp)
  rw [if_neg o15]
  have d15 : decide (x1.op = 15) = false := df o15
  by_cases o13 : x1.op = 13
  · rw [if_pos o13]
    have d13 : decide (x1.op = 13) = true := dt o13
    obtain ⟨H2, S2, A2, eS, R2⟩ := spawn_spec p R1 hmay o13 (hsp o13).1 (hsp o13).2 hoff.1 hoff.2 hl1 hpc
    conv => arg 3; arg 1; arg 1; arg 1; rw [do_B]; simp [sq1, sq2, doB, scopeAt, scopeIn, Try.f38, q0, k0, k1, k2, ec, e1, e2, e3, c1, c2, c3, hix', hf2, hH0, hr, hg0, hT, hR, ho1, op_nilp, d16, d15, d13, eS, W_label, W_goto, seqK_goto, blockK_goto, -getElem?_pos]
    exact do_close2 R2 _ (by simp) (by simp) (by simp)
  rw [if_neg o13]
  have d13 : decide (x1.op = 13) = false := df o13
  by_cases o14 : x1.op = 14
  · rw [if_pos o14]
    have d14 : decide (x1.op = 14) = true := dt o14
    obtain ⟨H2, S2, A2, eS, R2⟩ := join_spec R1 rfl hmay o14 (hslt o14) hl1 hpc
    conv => arg 3; arg 1; arg 1; arg 1; rw [do_B]; simp [sq1, sq2, doB, scopeAt, scopeIn, Try.f38, q0, k0, k1, k2, ec, e1, e2, e3, c1, c2, c3, hix', hf2, hH0, hr, hg0, hT, hR, ho1, op_nilp, d16, d15, d13, d14, eS, W_label, W_goto, seqK_goto, blockK_goto, -getElem?_pos]
    exact do_close2 R2 _ (by simp) (by simp) (by simp)
  rw [if_neg o14]
  have d14 : decide (x1.op = 14) = false := df o14
  by_cases oT : x1.op = 3 ∨ x1.op = 4 ∨ x1.op = 5 ∨ x1.op = 6
  · rw [if_pos oT]
    obtain ⟨H2, S2, A2, eS, R2⟩ := two_spec R1 rfl (by have := hoff6 (by omega); unfold off6 at this; rw [if_pos oT] at this; omega) hl1 hpc oT
    cases d3 : decide (x1.op = 3)
    · cases d4 : decide (x1.op = 4)
      · cases d5 : decide (x1.op = 5)
        · have d6 : decide (x1.op = 6) = true := dt (by have := of_decide_eq_false d3; have := of_decide_eq_false d4; have := of_decide_eq_false d5; omega)
          conv => arg 3; arg 1; arg 1; arg 1; rw [do_B]; simp [sq1, sq2, doB, scopeAt, scopeIn, Try.f38, q0, k0, k1, k2, ec, e1, e2, e3, c1, c2, c3, hix', hf2, hH0, hr, hg0, hT, hR, ho1, op_nilp, d16, d15, d13, d14, d3, d4, d5, d6, eS, W_label, W_goto, seqK_goto, blockK_goto, -getElem?_pos]
          exact do_close2 R2 _ (by simp) (by simp) (by simp)
        · conv => arg 3; arg 1; arg 1; arg 1; rw [do_B]; simp [sq1, sq2, doB, scopeAt, scopeIn, Try.f38, q0, k0, k1, k2, ec, e1, e2, e3, c1, c2, c3, hix', hf2, hH0, hr, hg0, hT, hR, ho1, op_nilp, d16, d15, d13, d14, d3, d4, d5, eS, W_label, W_goto, seqK_goto, blockK_goto, -getElem?_pos]
          exact do_close2 R2 _ (by simp) (by simp) (by simp)
      · conv => arg 3; arg 1; arg 1; arg 1; rw [do_B]; simp [sq1, sq2, doB, scopeAt, scopeIn, Try.f38, q0, k0, k1, k2, ec, e1, e2, e3, c1, c2, c3, hix', hf2, hH0, hr, hg0, hT, hR, ho1, op_nilp, d16, d15, d13, d14, d3, d4, eS, W_label, W_goto, seqK_goto, blockK_goto, -getElem?_pos]
        exact do_close2 R2 _ (by simp) (by simp) (by simp)
    · conv => arg 3; arg 1; arg 1; arg 1; rw [do_B]; simp [sq1, sq2, doB, scopeAt, scopeIn, Try.f38, q0, k0, k1, k2, ec, e1, e2, e3, c1, c2, c3, hix', hf2, hH0, hr, hg0, hT, hR, ho1, op_nilp, d16, d15, d13, d14, d3, eS, W_label, W_goto, seqK_goto, blockK_goto, -getElem?_pos]
      exact do_close2 R2 _ (by simp) (by simp) (by simp)
  rw [if_neg oT]
  have d3 : decide (x1.op = 3) = false := df (by omega)
  have d4 : decide (x1.op = 4) = false := df (by omega)
  have d5 : decide (x1.op = 5) = false := df (by omega)
  have d6 : decide (x1.op = 6) = false := df (by omega)
  obtain ⟨H2, S2, A2, eS, R2⟩ := plain_spec R1 rfl hmay (hoff6 o13) hloc hl1 hpc (by omega)
  conv => arg 3; arg 1; arg 1; arg 1; rw [do_B]; simp [sq1, sq2, doB, scopeAt, scopeIn, Try.f38, q0, k0, k1, k2, ec, e1, e2, e3, c1, c2, c3, hix', hf2, hH0, hr, hg0, hT, hR, ho1, op_nilp, d16, d15, d13, d14, d3, d4, d5, d6, eS, W_label, W_goto, seqK_goto, blockK_goto, -getElem?_pos]
  exact do_close2 R2 _ (by simp) (by simp) (by simp)
/-- WHAT AN INSTRUCTION DOES WITH A FRAME. -/
theorem Do_spec (p : Option (List Fu)) (f : Fr) (d : D) (hd : IsF d f) (hl1 : f.stack.length ≤ 2 ^ 40) (hl2 : f.locals.length ≤ 2 ^ 40) (hl3 : f.slots.length ≤ 2 ^ 40) (hcl : ∀ g ∈ p.getD [], g.c.length < 2 ^ 62) (hpl : (p.getD []).length < 2 ^ 63) :
    Qd (doF (p.getD []) f).1 (doF (p.getD []) f).2 (fnc Try.prog cfg R 38 [encProg p, d]) := by
  obtain ⟨a, b, z, rfl, ha, hb, hz⟩ := hd
  by_cases h : f.state ≠ 0 ∨ f.fn < 0 ∨ ((p.getD []).length : Int) ≤ f.fn
  · have e : doF (p.getD []) f = (f, acN 0) := by unfold doF; rw [if_pos h]
    rw [e]
    exact do_early p f a b z ha hb hz h
  · obtain ⟨n, hn⟩ : ∃ n : Nat, f.fn = n := ⟨f.fn.toNat, by omega⟩
    have hnl : n < (p.getD []).length := by omega
    have hg : (p.getD [])[n]? = some (p.getD [])[n] := List.getElem?_eq_getElem hnl
    exact do_main p f a b z ha hb hz (by omega) n hn _ hg hl1 hl2 hl3 (hcl _ (List.getElem_mem _))
end Go.Proofs.YtlpadffinfijgaaW.Rg
