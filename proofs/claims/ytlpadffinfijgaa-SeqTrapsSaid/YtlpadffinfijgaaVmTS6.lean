/- Tasks that trap: how they end. No conditions. -/
import Derived.Test.YtlpadffinfijgaaVmTS5
set_option linter.unusedVariables false
set_option linter.unusedSimpArgs false
set_option maxRecDepth 100000
namespace Go.Proofs.YtlpadffinfijgaaW.Rg
open Go.Proofs.YtlpadffinfijgaaW.Vm Go.Proofs.YtlpadffinfijgaaW.Md
open Go Go.Proofs
theorem mt_may : ∀ h : Fin 4, fmay (mainT h.val) = true := by decide +kernel
theorem mt_field : ∀ h : Fin 4, ((mainT h.val).c.all fun x => fieldE 3 (mainT h.val) x == 0) = true := by decide +kernel
theorem mt_reach : ∀ h : Fin 4, isR (reach (shapes [mainT h.val, ⟨0, 0, 0, none⟩, ⟨0, 0, 0, none⟩] (mainT h.val).c)) = true := by decide +kernel
theorem mt_lens : ∀ h : Fin 4, ((mainT h.val).c.all fun x => decide (x.op = 13 → x.a = 1 ∨ x.a = 2)) = true := by decide +kernel
theorem imay_t {a : Nat} (ha : 16 ≤ a ∧ a < 256) : imay ⟨16, a, 0⟩ = true := imay_iff.2 ⟨(by show (0 : Int) ≤ 16; omega), (by show (16 : Int) < 17; omega), (by show (16 : Int) ≤ a; omega), (by show (a : Int) ≤ 255; omega), (by show (0 : Int) ≤ 0; omega), (by show (0 : Int) ≤ 0; omega)⟩
theorem fmay_t {a : Nat} (ha : 16 ≤ a ∧ a < 256) : fmay (trapF1 a) = true := by
  unfold fmay
  have : (trapF1 a).c = [⟨16, a, 0⟩] := rfl
  rw [this, show headOk (trapF1 a) = true from rfl]
  simp [imay_t ha]
section
variable {h a b : Nat} (hh : h < 4) (ha : 16 ≤ a ∧ a < 256) (hb : 16 ≤ b ∧ b < 256)
include hh ha hb
theorem may_T : mayP (progT h a b) = true := by
  unfold mayP progT
  simp [mt_may ⟨h, hh⟩, fmay_t ha, fmay_t hb]
theorem good_T : good (progT h a b) = true := by
  have ht : ∀ (x : Nat), 16 ≤ x ∧ x < 256 → (trapF1 x).arity ≤ (trapF1 x).locals ∧ (∀ z ∈ (trapF1 x).c, fieldE (progT h a b).length (trapF1 x) z = 0) ∧ ∃ d, reach (shapes (progT h a b) (trapF1 x).c) = .inr d := fun x hx => by
    refine ⟨Int.le_refl _, fun z hz => ?_, ?_⟩
    · have : z = ⟨16, x, 0⟩ := by simpa [trapF1, Fu.c] using hz
      subst this
      unfold fieldE
      rw [if_neg (by show ¬ ((16 : Int) = 1 ∨ (16 : Int) = 2); decide), if_neg (by show ¬ ((16 : Int) = 14); decide), if_neg (by show ¬ ((16 : Int) = 13); decide), if_neg (by show ¬ ((16 : Int) = 10 ∨ (16 : Int) = 11); decide)]
    · have : shapes (progT h a b) (trapF1 x).c = [⟨0, 0, []⟩] := rfl
      rw [this]
      exact isR_ex (by decide)
  refine good_iff.2 ⟨may_T hh ha hb, fun f hf => ?_⟩
  have hf : f = mainT h ∨ f = trapF1 a ∨ f = trapF1 b := by simpa [progT] using hf
  rcases hf with rfl | rfl | rfl
  · refine ⟨Int.le_refl _, fun z hz => ?_, ?_⟩
    · have := List.all_eq_true.1 (mt_field ⟨h, hh⟩) z hz
      exact (by simpa using this : fieldE 3 (mainT h) z = 0)
    · have : shapes (progT h a b) (mainT h).c = shapes [mainT h, ⟨0, 0, 0, none⟩, ⟨0, 0, 0, none⟩] (mainT h).c := by
        refine shapes_off fun z hz => ?_
        have := List.all_eq_true.1 (mt_lens ⟨h, hh⟩) z hz
        simp only [decide_eq_true_eq] at this
        unfold offP
        by_cases h13 : z.op = 13
        · rw [if_pos h13, if_pos h13]
          rcases this h13 with e | e
          · rw [e]; rfl
          · rw [e]; rfl
        · rw [if_neg h13, if_neg h13]
      rw [this]
      exact isR_ex (mt_reach ⟨h, hh⟩)
  · exact ht a ha
  · exact ht b hb
end
def mtf (st : List Vl) (pc sp : Int) (s1 s2 : Slt) : Fr := ⟨0, pc, st, [], [s1, s2], 5, sp, 0, 0, 0, o0, noK, 0⟩
def tfr (n s : Int) : Fr := ⟨n, 0, [], [], [], s, 0, 0, 0, 0, o0, noK, 0⟩
theorem mt1 (h a b : Nat) : doF (progT h a b) (mtf [] 0 0 s0 s0) = (mtf [] 1 1 s0 ⟨1, noK, o0⟩, ⟨2, 2, 1, childI 5 0, []⟩) := by kernel_rfl
theorem mt2 (h a b : Nat) (o : Ou) : doF (progT h a b) (mtf [] 1 1 s0 ⟨2, noK, o⟩) = (mtf [] 2 2 ⟨1, noK, o0⟩ ⟨2, noK, o⟩, ⟨2, 1, 0, childI 5 1, []⟩) := by kernel_rfl
section
variable {h a b : Nat} (hh : h < 4) (ha : 16 ≤ a ∧ a < 256) (hb : 16 ≤ b ∧ b < 256)
theorem run16 (p : List Fu) (f : Fr) (x y : Int) : runX p f ⟨16, x, y⟩ = trapF f x := by
  unfold runX
  rw [if_pos rfl]
theorem kid_do (n s : Int) (x : Nat) (hx : 16 ≤ x ∧ x < 256) (hn : (n = 1 ∧ x = a) ∨ (n = 2 ∧ x = b)) : doF (progT h a b) (tfr n s) = ({ tfr n s with state := 2, out := ⟨x, v0⟩ }, acN 4) := by
  have hc : (codeOf (progT h a b) n)[(0 : Int).toNat]? = some ⟨16, x, 0⟩ := by
    rcases hn with ⟨rfl, rfl⟩ | ⟨rfl, rfl⟩ <;> rfl
  have hi : instrAt (progT h a b) (tfr n s) = some ⟨16, x, 0⟩ := by
    refine instr_at (Int.le_refl _) hc ?_
    unfold thereX
    rw [imay_t hx]
    rfl
  rw [do_at rfl ?_ hi ?_, run16]
  · rfl
  · show 0 ≤ n ∧ n < 3
    omega
  · rfl
theorem kid_run (n s : Int) (x : Nat) (hx : 16 ≤ x ∧ x < 256) (hn : (n = 1 ∧ x = a) ∨ (n = 2 ∧ x = b)) (g m : Nat) : runS (progT h a b) (g + 1) (tfr n s) (m + 1) = some (⟨x, v0⟩, m) := by
  rw [runS_end (kid_do n s x hx hn)]
  have : finF { tfr n s with state := 2, out := ⟨x, v0⟩ } = (⟨x, v0⟩, true) := by
    unfold finF
    rw [if_neg (by simp [tfr]), if_pos (by show ¬ ((x : Int) = 0); omega)]
  rw [this]
include hh ha hb
theorem kid_new (n : Int) (hn : n = 1 ∨ n = 2) {s : Int} (hs : isS s = true) : newF (progT h a b) n [] s = some (tfr n s) := by
  unfold newF
  rw [if_pos ⟨may_T hh ha hb, by omega, by show n < 3; omega, hs⟩]
  rcases hn with rfl | rfl <;> rfl
theorem main_new : newF (progT h a b) 0 [] 5 = some (mtf [] 0 0 s0 s0) := by
  unfold newF
  rw [if_pos ⟨may_T hh ha hb, by decide, by show (0 : Int) < 3; decide, by decide⟩]
  rfl
/-- two children have ended -/
theorem main_two (g m : Nat) : runS (progT h a b) (g + 5) (mtf [] 0 0 s0 s0) (m + 5) = runS (progT h a b) (g + 3) (mtf [] 2 2 ⟨2, noK, ⟨a, v0⟩⟩ ⟨2, noK, ⟨b, v0⟩⟩) (m + 1) := by
  rw [show g + 5 = g + 4 + 1 by omega, show m + 5 = m + 4 + 1 by omega, runS_sp (mt1 h a b) (kid_new hh ha hb 2 (.inr rfl) (childS 5 0)), show g + 4 = g + 3 + 1 by omega, show m + 4 = m + 3 + 1 by omega, kid_run 2 _ b hb (.inr ⟨rfl, rfl⟩)]
  simp only
  have e1 : (giveF (mtf [] 1 1 s0 ⟨1, noK, o0⟩) 1 ⟨b, v0⟩).1 = mtf [] 1 1 s0 ⟨2, noK, ⟨b, v0⟩⟩ := rfl
  rw [e1, show m + 3 = m + 2 + 1 by omega, runS_sp (mt2 h a b _) (kid_new hh ha hb 1 (.inl rfl) (childS 5 1)), show g + 3 = g + 2 + 1 by omega, show m + 2 = m + 1 + 1 by omega, kid_run 1 _ a ha (.inl ⟨rfl, rfl⟩)]
  rfl
end
def wantT (h a b : Nat) : Nat := if h = 0 then b else if h = 1 then a else if h = 2 then 99 else a
def manyT (h : Nat) : Nat := if h = 1 then 6 else 5
theorem fin_T {f : Fr} {x : Int} (hx : x ≠ 0) (h2 : f.state = 2) (hs : f.slots.any (fun s => s.state == 1) = false) (ho : f.out = ⟨x, v0⟩) : (finF f).1 = ⟨x, v0⟩ := by
  unfold finF
  rw [if_neg (by rw [hs]; simp [h2]), if_pos (by rw [ho]; exact hx), ho]
theorem ev_T {h a b : Nat} (hh : h < 4) (ha : 16 ≤ a ∧ a < 256) (hb : 16 ≤ b ∧ b < 256) : evS (progT h a b) [] 5 100 = (⟨wantT h a b, v0⟩, manyT h, 0) := by
  have e := ev_of (n := 100) (good_T hh ha hb) (main_new hh ha hb) (by decide) (by decide)
  have r := main_two hh ha hb 96 95
  rw [show 96 + 5 = 100 + 1 from rfl, show 95 + 5 = 100 from rfl] at r
  rw [r] at e
  have e' : evS (progT h a b) [] 5 100 = match runS (progT h a b) (98 + 1) (mtf [] 2 2 ⟨2, noK, ⟨a, v0⟩⟩ ⟨2, noK, ⟨b, v0⟩⟩) (95 + 1) with | some (o, m) => (o, 100 - m, 0) | none => (o0, 0, 100) := e
  rw [e']
  have hc : h = 0 ∨ h = 1 ∨ h = 2 ∨ h = 3 := by omega
  rcases hc with rfl | rfl | rfl | rfl
  · have hi : instrAt (progT 0 a b) (mtf [] 2 2 ⟨2, noK, ⟨a, v0⟩⟩ ⟨2, noK, ⟨b, v0⟩⟩) = some ⟨14, 1, 0⟩ := by kernel_rfl
    have hr : roomX (progT 0 a b) (mtf [] 2 2 ⟨2, noK, ⟨a, v0⟩⟩ ⟨2, noK, ⟨b, v0⟩⟩) ⟨14, 1, 0⟩ = true := by kernel_rfl
    have hd : doF (progT 0 a b) (mtf [] 2 2 ⟨2, noK, ⟨a, v0⟩⟩ ⟨2, noK, ⟨b, v0⟩⟩) = ({ mtf [] 2 2 ⟨2, noK, ⟨a, v0⟩⟩ s0 with state := 2, out := ⟨b, v0⟩ }, acN 4) := by
      rw [do_at rfl ⟨Int.le_refl _, by show (0 : Int) < 3; decide⟩ hi hr, run14]
      unfold joinF
      rw [if_neg (by simp [slotAt, mtf]), if_neg (by simp [slotAt, mtf]), if_pos (by simp [slotAt, mtf]; omega)]
      rfl
    rw [runS_end hd, fin_T (x := (b : Int)) (by omega) rfl rfl rfl]
    rfl
  · have h1 : doF (progT 1 a b) (mtf [] 2 2 ⟨2, noK, ⟨a, v0⟩⟩ ⟨2, noK, ⟨b, v0⟩⟩) = (mtf [ofG 1 0] 3 2 ⟨2, noK, ⟨a, v0⟩⟩ ⟨2, noK, ⟨b, v0⟩⟩, acN 1) := by kernel_rfl
    have h2 : doF (progT 1 a b) (mtf [ofG 1 0] 3 2 ⟨2, noK, ⟨a, v0⟩⟩ ⟨2, noK, ⟨b, v0⟩⟩) = ({ mtf [] 3 2 ⟨2, noK, ⟨a, v0⟩⟩ ⟨2, noK, ⟨b, v0⟩⟩ with state := 2, out := ⟨0, ofG 1 0⟩ }, acN 4) := by kernel_rfl
    have hf : (finF { mtf [] 3 2 ⟨2, noK, ⟨a, v0⟩⟩ ⟨2, noK, ⟨b, v0⟩⟩ with state := 2, out := ⟨0, ofG 1 0⟩ }).1 = ⟨a, v0⟩ := by
      unfold finF
      rw [if_neg (by simp [mtf]), if_neg (by simp)]
      have : finT [(⟨2, noK, ⟨a, v0⟩⟩ : Slt), ⟨2, noK, ⟨b, v0⟩⟩] = some (a : Int) := by
        unfold finT
        rw [if_pos ⟨rfl, by show ¬ ((a : Int) = 0); omega⟩]
      show (match finT [(⟨2, noK, ⟨a, v0⟩⟩ : Slt), ⟨2, noK, ⟨b, v0⟩⟩] with | some c => ((⟨c, v0⟩ : Ou), true) | none => _).1 = _
      rw [this]
    rw [runS_go h1, show (98 : Nat) = 97 + 1 from rfl, show (95 : Nat) = 94 + 1 from rfl, runS_end h2, hf]
    rfl
  · have hd : doF (progT 2 a b) (mtf [] 2 2 ⟨2, noK, ⟨a, v0⟩⟩ ⟨2, noK, ⟨b, v0⟩⟩) = ({ mtf [] 2 2 ⟨2, noK, ⟨a, v0⟩⟩ ⟨2, noK, ⟨b, v0⟩⟩ with state := 2, out := ⟨99, v0⟩ }, acN 4) := by kernel_rfl
    rw [runS_end hd, fin_T (x := 99) (by omega) rfl rfl rfl]
    rfl
  · have hi : instrAt (progT 3 a b) (mtf [] 2 2 ⟨2, noK, ⟨a, v0⟩⟩ ⟨2, noK, ⟨b, v0⟩⟩) = some ⟨14, 0, 0⟩ := by kernel_rfl
    have hr : roomX (progT 3 a b) (mtf [] 2 2 ⟨2, noK, ⟨a, v0⟩⟩ ⟨2, noK, ⟨b, v0⟩⟩) ⟨14, 0, 0⟩ = true := by kernel_rfl
    have hd : doF (progT 3 a b) (mtf [] 2 2 ⟨2, noK, ⟨a, v0⟩⟩ ⟨2, noK, ⟨b, v0⟩⟩) = ({ mtf [] 2 2 s0 ⟨2, noK, ⟨b, v0⟩⟩ with state := 2, out := ⟨a, v0⟩ }, acN 4) := by
      rw [do_at rfl ⟨Int.le_refl _, by show (0 : Int) < 3; decide⟩ hi hr, run14]
      unfold joinF
      rw [if_neg (by simp [slotAt, mtf]), if_neg (by simp [slotAt, mtf]), if_pos (by simp [slotAt, mtf]; omega)]
      rfl
    rw [runS_end hd, fin_T (x := (a : Int)) (by omega) rfl rfl rfl]
    rfl
end Go.Proofs.YtlpadffinfijgaaW.Rg
