/- Tasks that trap: the law. No conditions. -/
import Derived.Test.YtlpadffinfijgaaVmTS6
import Derived.Test.YtlpadffinfijgaaVmQL0
set_option linter.unusedVariables false
set_option linter.unusedSimpArgs false
set_option maxRecDepth 100000
namespace Go.Proofs.YtlpadffinfijgaaW.Rg
open Go.Proofs.YtlpadffinfijgaaW.Vm Go.Proofs.YtlpadffinfijgaaW.Md
open Go Go.Proofs
theorem add_str (s t : Operand) {x y : ByteArray} (h : ¬ ((x.size + y.size : Nat) : Int) > IntKind.i64.max) : binD Try.prog .add 9 s t (.str x) (.str y) = some (.str (x ++ y)) := by
  have e : binD Try.prog .add 9 s t (.str x) (.str y) = (match semPure Try.prog (if ((x.size + y.size : Nat) : Int) > IntKind.i64.max then unsupported (.resourceLimit "string concatenation: a sum of the lengths that is no int") else pure (.string (x ++ y))) with | some r => ofVal1 r | none => none) := rfl
  rw [e, if_neg h]
  rfl
theorem add_b (s t : Operand) {x y : ByteArray} (l m : List UInt8) (hx : x = bstr l) (hy : y = bstr m) (hn : l.length + m.length < 1000) : binD Try.prog .add 9 s t (.str x) (.str y) = some (.str (bstr (l ++ m))) := by
  rw [hx, hy, add_str s t (by rw [bstr_size, bstr_size]; show ¬ ((l.length + m.length : Nat) : Int) > 9223372036854775807; omega), bstr_app]
def p1 (h : Nat) : List UInt8 := joinT hdT ++ joinT (endT h)
def p2 (h : Nat) : List UInt8 := p1 h ++ [102, 117, 110, 99, 32, 48, 32, 48, 32, 48, 10, 116, 114, 97, 112, 32]
def p3 (h a : Nat) : List UInt8 := p2 h ++ digL a
def p4 (h a : Nat) : List UInt8 := p3 h a ++ [10, 102, 117, 110, 99, 32, 48, 32, 48, 32, 48, 10, 116, 114, 97, 112, 32]
def p5 (h a b : Nat) : List UInt8 := p4 h a ++ digL b
def p6 (h a b : Nat) : List UInt8 := p5 h a b ++ [10]
theorem joinT_app : ∀ l m : List (List UInt8), joinT (l ++ m) = joinT l ++ joinT m
  | [], m => rfl
  | x :: l, m => by
    show x ++ [10] ++ joinT (l ++ m) = x ++ [10] ++ joinT l ++ joinT m
    rw [joinT_app l m]
    simp
theorem p6_join (h a b : Nat) : p6 h a b = joinT (allT h a b) := by
  unfold p6 p5 p4 p3 p2 p1 allT preT trapL
  rw [joinT_app, joinT_app, joinT_app]
  simp [joinT, funcL]
theorem p2_len (h : Fin 4) : (p2 h.val).length < 100 := by revert h; decide
theorem digL_len (a : Nat) : (digL a).length ≤ 3 := by
  unfold digL
  split
  · simp
  · split <;> simp
theorem p6_len {h : Nat} (hh : h < 4) (a b : Nat) : (p6 h a b).length < 300 := by
  have h2 := p2_len ⟨h, hh⟩
  have ha := digL_len a
  have hb := digL_len b
  simp only [p6, p5, p4, p3, List.length_append, List.length_cons, List.length_nil]
  simp only at h2
  omega
theorem bnd_T (h a b : Nat) : Bnd (progT h a b) := by
  refine ⟨by show (3 : Nat) < 2 ^ 63; decide, fun f hf => ?_⟩
  have hf : f = mainT h ∨ f = trapF1 a ∨ f = trapF1 b := by simpa [progT] using hf
  rcases hf with rfl | rfl | rfl
  · show (codeT h).length < 2 ^ 63
    unfold codeT endC
    (repeat' split) <;> simp
  · show (1 : Nat) < 2 ^ 63
    decide
  · show (1 : Nat) < 2 ^ 63
    decide
theorem allT_len {h : Nat} (hh : h < 4) (a b : Nat) : (allT h a b).length < 1000 := by
  unfold allT preT hdT endT
  simp only [List.length_append, List.length_cons, List.length_nil]
  (repeat' split) <;> simp
theorem of_T {h a b : Nat} (hh : h < 4) (ha : 16 ≤ a ∧ a < 256) (hb : 16 ≤ b ∧ b < 256) : fnc Try.prog cfg R 15 [.str (bstr (p6 h a b))] = some (encProg (some (progT h a b))) := by
  obtain ⟨H2, hL, hE⟩ := all_lay hh ha hb
  have hs := split_join (allT h a b) (all_line h a b hh ha.2 hb.2)
  rw [← p6_join] at hs
  exact of_spec2 (parse_spec hs (by have := p6_len hh a b; omega) (allT_len hh a b) hL hE (may_T hh ha hb) (bnd_T h a b)) (clean_encL _) (lz_encL _)
theorem tx0 (s t : Operand) : binD Try.prog .add 9 s t (.str ⟨#[102, 117, 110, 99, 32, 48, 32, 48, 32, 50, 10, 115, 112, 97, 119, 110, 32, 50, 32, 49, 10, 115, 112, 97, 119, 110, 32, 49, 32, 48, 10]⟩) (.str ⟨#[106, 111, 105, 110, 32, 49, 10, 114, 101, 116, 10]⟩) = some (.str (bstr (p1 0))) := add_b s t (joinT hdT) (joinT (endT 0)) rfl rfl (by decide)
theorem tx1 (s t : Operand) : binD Try.prog .add 9 s t (.str ⟨#[102, 117, 110, 99, 32, 48, 32, 48, 32, 50, 10, 115, 112, 97, 119, 110, 32, 50, 32, 49, 10, 115, 112, 97, 119, 110, 32, 49, 32, 48, 10]⟩) (.str ⟨#[112, 117, 115, 104, 32, 49, 32, 48, 10, 114, 101, 116, 10]⟩) = some (.str (bstr (p1 1))) := add_b s t (joinT hdT) (joinT (endT 1)) rfl rfl (by decide)
theorem tx2 (s t : Operand) : binD Try.prog .add 9 s t (.str ⟨#[102, 117, 110, 99, 32, 48, 32, 48, 32, 50, 10, 115, 112, 97, 119, 110, 32, 50, 32, 49, 10, 115, 112, 97, 119, 110, 32, 49, 32, 48, 10]⟩) (.str ⟨#[116, 114, 97, 112, 32, 57, 57, 10]⟩) = some (.str (bstr (p1 2))) := add_b s t (joinT hdT) (joinT (endT 2)) rfl rfl (by decide)
theorem tx3 (s t : Operand) : binD Try.prog .add 9 s t (.str ⟨#[102, 117, 110, 99, 32, 48, 32, 48, 32, 50, 10, 115, 112, 97, 119, 110, 32, 50, 32, 49, 10, 115, 112, 97, 119, 110, 32, 49, 32, 48, 10]⟩) (.str ⟨#[106, 111, 105, 110, 32, 48, 10, 114, 101, 116, 10]⟩) = some (.str (bstr (p1 3))) := add_b s t (joinT hdT) (joinT (endT 3)) rfl rfl (by decide)
section
variable {h : Nat} (hh : h < 4) (a b : Nat) (s t : Operand)
include hh
theorem ty2 : binD Try.prog .add 9 s t (.str (bstr (p1 h))) (.str ⟨#[102, 117, 110, 99, 32, 48, 32, 48, 32, 48, 10, 116, 114, 97, 112, 32]⟩) = some (.str (bstr (p2 h))) := add_b s t (p1 h) [102, 117, 110, 99, 32, 48, 32, 48, 32, 48, 10, 116, 114, 97, 112, 32] rfl rfl (by have := p2_len ⟨h, hh⟩; simp only [p2, List.length_append] at this; omega)
theorem ty3 : binD Try.prog .add 9 s t (.str (bstr (p2 h))) (.str (bstr (digL a))) = some (.str (bstr (p3 h a))) := add_b s t _ _ rfl rfl (by have := p6_len hh a 0; simp only [p6, p5, p4, p3, List.length_append] at this; omega)
theorem ty4 : binD Try.prog .add 9 s t (.str (bstr (p3 h a))) (.str ⟨#[10, 102, 117, 110, 99, 32, 48, 32, 48, 32, 48, 10, 116, 114, 97, 112, 32]⟩) = some (.str (bstr (p4 h a))) := add_b s t (p3 h a) [10, 102, 117, 110, 99, 32, 48, 32, 48, 32, 48, 10, 116, 114, 97, 112, 32] rfl rfl (by have := p6_len hh a 0; simp only [p6, p5, p4, List.length_append] at this; omega)
theorem ty5 : binD Try.prog .add 9 s t (.str (bstr (p4 h a))) (.str (bstr (digL b))) = some (.str (bstr (p5 h a b))) := add_b s t _ _ rfl rfl (by have := p6_len hh a b; simp only [p6, p5, List.length_append] at this; omega)
theorem ty6 : binD Try.prog .add 9 s t (.str (bstr (p5 h a b))) (.str ⟨#[10]⟩) = some (.str (bstr (p6 h a b))) := add_b s t (p5 h a b) [10] rfl rfl (by have := p6_len hh a b; simp only [p6, List.length_append] at this; omega)
end
set_option maxHeartbeats 4000000 in
theorem traps10_law (i j h : Int) : fnc Try.prog cfgE RE 6 [I i, I j, I h] = some (.bool true) := by
  rw [fnc_at (cfgE_ext rfl), body_eq Try.func6 rfl rfl]
  have hdr := drE dr6_4
  have hdr8 := drE dr6_8
  simp [opsAt, opsIn, Try.f6] at hdr hdr8
  have hdw := Wdraw hdr
  have hdw8 := Wdraw hdr8
  clear hdr hdr8
  by_cases c1 : i < 16
  · simp [argsσ, Vm.results, fixed10, c1, hdw, hdw8, -getElem?_pos]
  by_cases c2 : 255 < i
  · simp [argsσ, Vm.results, fixed10, c1, c2, hdw, hdw8, -getElem?_pos]
  by_cases c3 : j < 16
  · simp [argsσ, Vm.results, fixed10, c1, c2, c3, hdw, hdw8, -getElem?_pos]
  by_cases c4 : 255 < j
  · simp [argsσ, Vm.results, fixed10, c1, c2, c3, c4, hdw, hdw8, -getElem?_pos]
  by_cases c5 : h < 0
  · simp [argsσ, Vm.results, fixed10, c1, c2, c3, c4, c5, hdw, hdw8, -getElem?_pos]
  by_cases c6 : 3 < h
  · simp [argsσ, Vm.results, fixed10, c1, c2, c3, c4, c5, c6, hdw, hdw8, -getElem?_pos]
  obtain ⟨a, rfl⟩ : ∃ a : Nat, i = a := ⟨i.toNat, by omega⟩
  obtain ⟨b, rfl⟩ : ∃ b : Nat, j = b := ⟨j.toNat, by omega⟩
  have ha : 16 ≤ a ∧ a < 256 := by omega
  have hb : 16 ≤ b ∧ b < 256 := by omega
  have d1 := up (dig_spec (a := a) (by omega))
  have d2 := up (dig_spec (a := b) (by omega))
  have x0 : idxD 4 (I 0) = some 0 := by decide
  have x1 : idxD 4 (I 1) = some 1 := by decide
  have x2 : idxD 4 (I 2) = some 2 := by decide
  have x3 : idxD 4 (I 3) = some 3 := by decide
  have hc : h = 0 ∨ h = 1 ∨ h = 2 ∨ h = 3 := by omega
  rcases hc with rfl | rfl | rfl | rfl
  · have hh : 0 < 4 := by decide
    have eo := up (of_T hh ha hb)
    have ee := eval_at (p := some (progT 0 a b)) (a := none) (by show (3 : Nat) < 2 ^ 63; decide) (by decide) (ev_T hh ha hb)
    simp only [encProg, encL] at ee eo
    simp [argsσ, Vm.results, fixed10, c1, c2, c3, c4, c5, c6, d1, d2, x0, tx0, ty2 hh, ty3 hh a, ty4 hh a, ty5 hh a b, ty6 hh a b, eo, ee, hdw, hdw8, logL, loud, isE, drawChk, encO, v0, wantT, manyT, -getElem?_pos]
  · have hh : 1 < 4 := by decide
    have eo := up (of_T hh ha hb)
    have ee := eval_at (p := some (progT 1 a b)) (a := none) (by show (3 : Nat) < 2 ^ 63; decide) (by decide) (ev_T hh ha hb)
    simp only [encProg, encL] at ee eo
    simp [argsσ, Vm.results, fixed10, c1, c2, c3, c4, c5, c6, d1, d2, x1, tx1, ty2 hh, ty3 hh a, ty4 hh a, ty5 hh a b, ty6 hh a b, eo, ee, hdw, hdw8, logL, loud, isE, drawChk, encO, v0, wantT, manyT, -getElem?_pos]
  · have hh : 2 < 4 := by decide
    have eo := up (of_T hh ha hb)
    have ee := eval_at (p := some (progT 2 a b)) (a := none) (by show (3 : Nat) < 2 ^ 63; decide) (by decide) (ev_T hh ha hb)
    simp only [encProg, encL] at ee eo
    simp [argsσ, Vm.results, fixed10, c1, c2, c3, c4, c5, c6, d1, d2, x2, tx2, ty2 hh, ty3 hh a, ty4 hh a, ty5 hh a b, ty6 hh a b, eo, ee, hdw, hdw8, logL, loud, isE, drawChk, encO, v0, wantT, manyT, -getElem?_pos]
  · have hh : 3 < 4 := by decide
    have eo := up (of_T hh ha hb)
    have ee := eval_at (p := some (progT 3 a b)) (a := none) (by show (3 : Nat) < 2 ^ 63; decide) (by decide) (ev_T hh ha hb)
    simp only [encProg, encL] at ee eo
    simp [argsσ, Vm.results, fixed10, c1, c2, c3, c4, c5, c6, d1, d2, x3, tx3, ty2 hh, ty3 hh a, ty4 hh a, ty5 hh a b, ty6 hh a b, eo, ee, hdw, hdw8, logL, loud, isE, drawChk, encO, v0, wantT, manyT, -getElem?_pos]
end Go.Proofs.YtlpadffinfijgaaW.Rg
