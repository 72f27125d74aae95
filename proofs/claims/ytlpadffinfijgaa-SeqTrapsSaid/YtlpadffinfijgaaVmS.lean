/- Words for running the machine of plain values by simp. No conditions. -/
import Derived.Test.YtlpadffinfijgaaVmW
import Derived.IntWalk
set_option linter.unusedVariables false
set_option linter.unusedSimpArgs false
namespace Go.Proofs.YtlpadffinfijgaaW.Vm
open Go
section
variable (P : Program)
theorem bin_geq (t x y k a b) : binD P .geq t x y (.int k a) (.int k b) = some (.bool (decide (b ≤ a))) := by
  simp [binD, scal, eqGuard, binOp, Op.intCmp, semPure, bind, Sem.bind, pure, ofVal1]
theorem bin_leq (t x y k a b) : binD P .leq t x y (.int k a) (.int k b) = some (.bool (decide (a ≤ b))) := by
  simp [binD, scal, eqGuard, binOp, Op.intCmp, semPure, bind, Sem.bind, pure, ofVal1]
theorem bin_gtr (t x y k a b) : binD P .gtr t x y (.int k a) (.int k b) = some (.bool (decide (b < a))) := by
  simp [binD, scal, eqGuard, binOp, Op.intCmp, semPure, bind, Sem.bind, pure, ofVal1]
theorem bin_lss (t x y k a b) : binD P .lss t x y (.int k a) (.int k b) = some (.bool (decide (a < b))) := by
  simp [binD, scal, eqGuard, binOp, Op.intCmp, semPure, bind, Sem.bind, pure, ofVal1]
theorem bin_eql (t x y k a b) : binD P .eql t x y (.int k a) (.int k b) = some (.bool (decide (a = b))) := by
  simp [binD, scal, eqGuard, binOp, Op.intCmp, semPure, bind, Sem.bind, pure, ofVal1]
  try rfl
theorem bin_neq (t x y k a b) : binD P .neq t x y (.int k a) (.int k b) = some (.bool (!decide (a = b))) := by
  simp [binD, scal, eqGuard, binOp, Op.intCmp, semPure, bind, Sem.bind, pure, ofVal1]
  try rfl
theorem bin_add (t x y k a b) : binD P .add t x y (.int k a) (.int k b) = some (.int k (k.wrap (a + b))) := by
  simp [binD, scal, eqGuard, binOp, Op.intArith, semPure, bind, Sem.bind, pure, ofVal1]
theorem bin_sub (t x y k a b) : binD P .sub t x y (.int k a) (.int k b) = some (.int k (k.wrap (a - b))) := by
  simp [binD, scal, eqGuard, binOp, Op.intArith, semPure, bind, Sem.bind, pure, ofVal1]
theorem bin_mul (t x y k a b) : binD P .mul t x y (.int k a) (.int k b) = some (.int k (k.wrap (a * b))) := by
  simp [binD, scal, eqGuard, binOp, Op.intArith, semPure, bind, Sem.bind, pure, ofVal1]
theorem bin_rem (t x y k a b) (h : b ≠ 0) : binD P .rem t x y (.int k a) (.int k b) = some (.int k (a.tmod b)) := by
  simp [binD, scal, eqGuard, binOp, Op.intArith, semPure, bind, Sem.bind, pure, ofVal1, Op.intDiv, h]
theorem bin_quo (t x y k a b) (h : b ≠ 0) : binD P .quo t x y (.int k a) (.int k b) = some (.int k (k.wrap (a.tdiv b))) := by
  simp [binD, scal, eqGuard, binOp, Op.intArith, semPure, bind, Sem.bind, pure, ofVal1, Op.intDiv, h]
theorem un_not (b) : pure1 P (Op.unary .not (.bool b)) = some (.bool !b) := by
  simp [pure1, Op.unary, semPure, pure, ofVal1]
theorem fd_of {P : Program} {t f ty off s : Nat} (h : (fieldT P t f).map (fun x => (x.type, x.offset)) = some (ty, off)) (hs : szT P ty = some s) (h0 : s ≠ 0) (p : D) : fieldAddrD P t f p = match p with
      | .ptr id ver i j => some (.ptr id ver i (j + off))
      | .fptr z xs i j => some (.fptr z xs i (j + off))
      | _ => none := by
  unfold fieldAddrD
  cases hf : fieldT P t f with
  | none => simp [hf] at h
  | some fd =>
    simp only [hf, Option.map_some, Option.some.injEq, Prod.mk.injEq] at h
    obtain ⟨rfl, rfl⟩ := h
    simp only [hs, if_neg h0]
    cases p <;> rfl
theorem fi_of {P : Program} {t f ty off : Nat} (h : (fieldT P t f).map (fun x => (x.type, x.offset)) = some (ty, off)) (cs : List D) : fieldD P t f (.agg cs) = partD P ty cs off := by
  unfold fieldD
  cases hf : fieldT P t f with
  | none => simp [hf] at h
  | some fd =>
    simp only [hf, Option.map_some, Option.some.injEq, Prod.mk.injEq] at h
    obtain ⟨rfl, rfl⟩ := h
    rfl
/-- a region's operations, by its number -/
def opsIn : Code → Nat → Option (Array Oper)
  | .region k ops _, n => if k = n then some ops else none
  | .seq a b, n => (opsIn a n).or (opsIn b n)
  | .cond _ a b, n => (opsIn a n).or (opsIn b n)
  | .block _ a, n => opsIn a n
  | .loop a, n => opsIn a n
  | .scope a, n => opsIn a n
  | _, _ => none
def opsAt (f : Func) (n : Nat) : Array Oper := ((f.body.bind fun c => opsIn c n).getD #[])
end
end Go.Proofs.YtlpadffinfijgaaW.Vm
