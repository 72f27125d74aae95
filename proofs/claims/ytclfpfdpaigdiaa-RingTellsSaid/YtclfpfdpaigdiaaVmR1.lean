import Derived.Test.YtclfpfdpaigdiaaVmPre
set_option linter.unusedVariables false
set_option linter.unusedSimpArgs false
namespace Go.Proofs.YtclfpfdpaigdiaaW.Rg
open Go.Proofs.YtclfpfdpaigdiaaW.Vm
open Go Go.Proofs
structure Ref where
  at_ : Int
  gen : Int
  deriving DecidableEq
@[reducible] def encRef (r : Ref) : D := .agg [I r.at_, I r.gen]
def encS : Option (List Ref) → D
  | none => .snil
  | some l => .sl 2 (l.map encRef) false
structure Ring where
  buf : Option (List Ref)
  head : Int
  many : Int
  most : Int
def Ring.l (r : Ring) : List Ref := r.buf.getD []
@[reducible] def encRing (r : Ring) : D := .agg [encS r.buf, I r.head, I r.many, I r.most]
@[simp] theorem lenS_encS (b : Option (List Ref)) : lenS (encS b) = some (b.getD []).length := by cases b <;> simp [encS, lenS]
@[simp] theorem one_encS (b : Option (List Ref)) : D.one (encS b) = true := by cases b <;> rfl
@[simp] theorem cells_encS (b : Option (List Ref)) : D.cells (encS b) = [encS b] := by cases b <;> rfl
@[simp] theorem clean_encS (b : Option (List Ref)) : clean (encS b) = true := by cases b <;> simp [encS]
@[simp] theorem lz_encS (b : Option (List Ref)) : lz (encS b) = true := by cases b <;> rfl
theorem beqs_refs : ∀ rs : List Ref, beqs (rs.map encRef) (rs.map encRef) = true
  | [] => by simp
  | x :: rs => by simp [beqs_refs rs]
@[simp] theorem beq_encS (b : Option (List Ref)) : beq (encS b) (encS b) = true := by cases b <;> simp [encS, beqs_refs]
def inb (n a b : Int) : Bool := decide (a ≤ n) && decide (n ≤ b)
theorem in_spec (n a b : Int) : fnc Try.prog cfg R 32 [I n, I a, I b] = some (.bool (inb n a b)) := by
  rw [fnc_eq cfg_ext, body_eq Try.func32 rfl rfl]
  by_cases h1 : a ≤ n <;> by_cases h2 : n ≤ b <;> simp [argsσ, Vm.results, h1, h2, inb]
def may (r : Ring) : Bool := inb r.most 1 1024 && inb r.l.length 1 r.most && inb r.head 0 ((r.l.length : Int) - 1) && inb r.many 0 r.l.length
theorem may_spec (r : Ring) (hl : r.l.length < 2 ^ 62) : fnc Try.prog cfg R 25 [encRing r] = some (.bool (may r)) := by
  have hw : IntKind.i64.wrap ((r.l.length : Int) - 1) = (r.l.length : Int) - 1 := IntWalk.i64_in _ (by omega)
  rw [fnc_eq cfg_ext, body_eq Try.func25 rfl rfl]
  have hl : (r.buf.getD []).length = r.l.length := rfl
  cases h1 : inb r.most 1 1024 <;> cases h2 : inb r.l.length 1 r.most <;> cases h3 : inb r.head 0 ((r.l.length : Int) - 1) <;>
  simp [argsσ, Vm.results, in_spec, hl, hw, h1, h2, h3, may]
/-- place: of a ring with places -/
theorem place_spec (r : Ring) (i : Int) (hl : r.l.length < 2 ^ 62) (h0 : 0 < r.l.length) (hh : 0 ≤ r.head ∧ r.head < 2 ^ 61) (hi : 0 ≤ i ∧ i < 2 ^ 61) :
    fnc Try.prog cfg R 30 [encRing r, I i] = some (I ((r.head + i).tmod r.l.length)) := by
  have hw : IntKind.i64.wrap (r.head + i) = r.head + i := IntWalk.i64_in _ (by omega)
  have hn : (r.l.length : Int) ≠ 0 := by omega
  have hl : (r.buf.getD []).length = r.l.length := rfl
  rw [fnc_eq cfg_ext, body_eq Try.func30 rfl rfl]
  have e : ∀ t x y a, binD Try.prog .rem t x y (I a) (I r.l.length) = some (I (a.tmod r.l.length)) := fun t x y a => bin_rem _ t x y .i64 a _ hn
  simp [argsσ, Vm.results, hl, hw, e]
end Go.Proofs.YtclfpfdpaigdiaaW.Rg
