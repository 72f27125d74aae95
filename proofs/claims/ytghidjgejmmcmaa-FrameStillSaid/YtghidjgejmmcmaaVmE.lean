/- How programs, instructions and lists lie in the machine of plain values. No conditions. -/
import Derived.Test.YtghidjgejmmcmaaVmPre
import Derived.Test.YtghidjgejmmcmaaVmC1
set_option linter.unusedVariables false
set_option linter.unusedSimpArgs false
namespace Go.Proofs.YtghidjgejmmcmaaW.Rg
open Go.Proofs.YtghidjgejmmcmaaW.Vm Go.Proofs.YtghidjgejmmcmaaW.Md
open Go Go.Proofs
/-- a list as a slice; none: the nil one -/
def encL {α : Type} (z : Nat) (e : α → D) : Option (List α) → D
  | none => .snil
  | some l => .sl z (l.map e) false
section
variable {α : Type} {z : Nat} {e : α → D}
@[simp] theorem lenS_encL (b : Option (List α)) : lenS (encL z e b) = some (b.getD []).length := by cases b <;> simp [encL]
@[simp] theorem one_encL (b : Option (List α)) : D.one (encL z e b) = true := by cases b <;> simp [encL]
@[simp] theorem cells_encL (b : Option (List α)) : D.cells (encL z e b) = [encL z e b] := by cases b <;> simp [encL]
@[simp] theorem clean_encL (b : Option (List α)) : clean (encL z e b) = true := by cases b <;> simp [encL]
@[simp] theorem lz_encL (b : Option (List α)) : lz (encL z e b) = true := by cases b <;> simp [encL]
@[simp] theorem elsZ_encL (h : List Ob) (b : Option (List α)) : elsZ h z (encL z e b) = some ((b.getD []).map e) := by cases b <;> simp [encL]
theorem ixL {P : Program} {t el : Nat} (hu : P.underlying t = some (.slice el)) (hs : szT P el = some z) (b : Option (List α)) (i : D) : indexAddrD P t (encL z e b) i = (idxD (b.getD []).length i).map fun i => .fptr z ((b.getD []).map e) i 0 := by
  cases b with
  | none => simp only [encL, indexAddrD, hu]; cases i <;> simp [idxD]
  | some l => simp [encL, ixsl_eq hu hs]
theorem map_get {l : List α} {i : Nat} {x : α} (h : l[i]? = some x) : (l.map e)[i]? = some (e x) := by simp [h]
end
@[reducible] def encInstr (x : Instr) : D := .agg [I x.op, I x.a, I x.b]
@[reducible] def encCode (c : Option (List Instr)) : D := encL 3 encInstr c
@[reducible] def encFunc (f : Fu) : D := .agg [I f.arity, I f.locals, I f.slots, encCode f.code]
@[reducible] def encProg (p : Option (List Fu)) : D := encL 4 encFunc p
@[simp] theorem ixL_instr (b : Option (List Instr)) (i : D) : indexAddrD Try.prog 29 (encL 3 encInstr b) i = (idxD (b.getD []).length i).map fun i => .fptr 3 ((b.getD []).map encInstr) i 0 := ixL un29 sz77 b i
@[simp] theorem ixL_func (b : Option (List Fu)) (i : D) : indexAddrD Try.prog 23 (encL 4 encFunc b) i = (idxD (b.getD []).length i).map fun i => .fptr 4 ((b.getD []).map encFunc) i 0 := ixL un23 sz31 b i
@[simp] theorem ixL_int (b : Option (List Int)) (i : D) : indexAddrD Try.prog 43 (encL 1 I b) i = (idxD (b.getD []).length i).map fun i => .fptr 1 ((b.getD []).map I) i 0 := ixL un43 sz3 b i
@[simp] theorem ixL_bool (b : Option (List Bool)) (i : D) : indexAddrD Try.prog 98 (encL 1 D.bool b) i = (idxD (b.getD []).length i).map fun i => .fptr 1 ((b.getD []).map D.bool) i 0 := ixL un98 sz4 b i
theorem cl_ints : ∀ l : List Int, cleans (l.map I) = true
  | [] => rfl
  | x :: l => by simp [cl_ints l]
theorem cl_bools : ∀ l : List Bool, cleans (l.map D.bool) = true
  | [] => rfl
  | x :: l => by simp [cl_bools l]
theorem wr {n : Int} (h1 : -2 ^ 63 ≤ n) (h2 : n < 2 ^ 63) : IntKind.i64.wrap n = n := IntWalk.i64_in _ (by omega)
theorem dt {p : Prop} [Decidable p] (h : p) : decide p = true := decide_eq_true h
theorem df {p : Prop} [Decidable p] (h : ¬ p) : decide p = false := decide_eq_false h
end Go.Proofs.YtghidjgejmmcmaaW.Rg
