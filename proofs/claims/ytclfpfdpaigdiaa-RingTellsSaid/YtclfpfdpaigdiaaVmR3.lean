import Derived.Test.YtclfpfdpaigdiaaVmR2
set_option linter.unusedVariables false
set_option linter.unusedSimpArgs false
namespace Go.Proofs.YtclfpfdpaigdiaaW.Rg
open Go.Proofs.YtclfpfdpaigdiaaW.Vm
open Go Go.Proofs
theorem may_ok {r : Ring} (h : Ok r) : fnc Try.prog cfg R 25 [encRing r] = some (.bool true) := by
  have := h.h1; have := h.h2; have := h.h3
  rw [may_spec r (by omega), (may_iff r).2 h]
theorem may_no {r : Ring} (hl : r.l.length < 2 ^ 62) (h : ¬ Ok r) : fnc Try.prog cfg R 25 [encRing r] = some (.bool false) := by
  rw [may_spec r hl]
  cases hm : may r with
  | true => exact absurd ((may_iff r).1 hm) h
  | false => rfl
theorem Items_ok {r : Ring} (h : Ok r) : fnc Try.prog cfg R 23 [encRing r] = some (encS (some (items r))) := by
  rw [fnc_eq cfg_ext, body_eq Try.func23 rfl rfl]
  rw [show encS (some (items r)) = .sl 2 ((items r).map encRef) false from rfl]
  simp [argsσ, Vm.results, may_ok h, items33 r h]
theorem Items_no {r : Ring} (hl : r.l.length < 2 ^ 62) (h : ¬ Ok r) : fnc Try.prog cfg R 23 [encRing r] = some .snil := by
  rw [fnc_eq cfg_ext, body_eq Try.func23 rfl rfl]
  simp [argsσ, Vm.results, may_no hl h]
/-- the ring without its top -/
def stolen (r : Ring) : Ring := { r with head := ((r.head.toNat + 1) % r.l.length : Nat), many := r.many - 1 }
theorem steal31 {r : Ring} (h : Ok r) : fnc Try.prog cfg R 31 [encRing r] = some (.tup [encRing (stolen r), encRef (item r 0)]) := by
  have := h.h1; have := h.h2; have := h.h3; have := h.h6; have := h.h7; have := h.h4; have := h.h5
  have hp := place_ok r h 1 (by omega)
  have hix := ix_encS r.buf r.head ⟨h.h4, h.h5⟩
  have hg := l_get r (i := r.head.toNat) (by omega)
  have hit : item r 0 = r.l.getD r.head.toNat rf0 := by rw [item]; congr 1; simp; exact Nat.mod_eq_of_lt (by omega)
  rw [← hit] at hg
  have hwr : IntKind.i64.wrap (r.many - 1) = r.many - 1 := IntWalk.i64_in _ (by omega)
  have hd := dr31_4
  simp [opsAt, opsIn, Try.f31] at hd
  have hdw := Wdraw hd
  rw [fnc_eq cfg_ext, body_eq Try.func31 rfl rfl]
  unfold stolen
  generalize ((r.head.toNat + 1) % r.l.length) = q at hp
  simp at hp hix
  simp [argsσ, Vm.results, hp, hix, hg, hwr, hdw, logL, loud, isE, drawChk]
theorem build48 (r : Ring) : bldD Try.prog 48 [.snil, I 0, I 0, I 0] [(0, encRing r)] = some [encS r.buf, I r.head, I r.many, I r.most] := by simp
theorem steal_ok {r : Ring} (h : Ok r) (h0 : r.many ≠ 0) : fnc Try.prog cfg R 15 [encRing r] = some (.tup [encRing (stolen r), encRef (item r 0), .bool true]) := by
  have hd := dr15_4
  simp [opsAt, opsIn, Try.f15] at hd
  have hdw := Wdraw hd
  rw [fnc_eq cfg_ext, body_eq Try.func15 rfl rfl]
  simp [argsσ, Vm.results, may_ok h, steal31 h, h0, hdw, logL, loud, isE, drawChk]
theorem steal_no {r : Ring} (h : Ok r) (h0 : r.many = 0) : fnc Try.prog cfg R 15 [encRing r] = some (.tup [encRing r, encRef rf0, .bool false]) := by
  have e : decide (r.many = 0) = true := by simp [h0]
  rw [fnc_eq cfg_ext, body_eq Try.func15 rfl rfl]
  simp [argsσ, Vm.results, may_ok h, e, rf0]
theorem steal_bad {r : Ring} (hl : r.l.length < 2 ^ 62) (h : ¬ Ok r) : fnc Try.prog cfg R 15 [encRing r] = some (.tup [encRing r, encRef rf0, .bool false]) := by
  rw [fnc_eq cfg_ext, body_eq Try.func15 rfl rfl]
  simp [argsσ, Vm.results, may_no hl h, rf0]
end Go.Proofs.YtclfpfdpaigdiaaW.Rg
