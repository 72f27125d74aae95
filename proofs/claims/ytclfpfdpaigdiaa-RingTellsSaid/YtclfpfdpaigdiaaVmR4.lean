import Derived.Test.YtclfpfdpaigdiaaVmR3
set_option linter.unusedVariables false
set_option linter.unusedSimpArgs false
namespace Go.Proofs.YtclfpfdpaigdiaaW.Rg
open Go.Proofs.YtclfpfdpaigdiaaW.Vm
open Go Go.Proofs
def newRing (room most : Int) : Ring := { buf := some (List.replicate room.toNat rf0), head := 0, many := 0, most := most }
def noRing : Ring := { buf := none, head := 0, many := 0, most := 0 }
theorem rep_refs (n : Nat) : List.replicate n (D.agg [D.int .i64 0, D.int .i64 0]) = (List.replicate n rf0).map encRef := by simp [rf0]
@[simp] theorem encS_some (l : List Ref) : encS (some l) = .sl 2 (l.map encRef) false := rfl
@[simp] theorem encS_none : encS none = .snil := rfl
theorem new_ok (room most : Int) (h1 : inb most 1 1024 = true) (h2 : inb room 1 most = true) : fnc Try.prog cfg R 19 [I room, I most] = some (.tup [encRing (newRing room most), .bool true]) := by
  have hb : 1 ≤ room ∧ room ≤ most ∧ most ≤ 1024 := by simp [inb] at h1 h2; omega
  obtain ⟨n, hn⟩ : ∃ n : Nat, room = n := ⟨room.toNat, by omega⟩
  subst hn
  have hmk := fun (hp : List Ob) => mk_slice (P := Try.prog) el22 sz33 by33 ze33 (by simp) (by decide) (by decide) hp .i64 .i64 n n (by omega) (by omega) (by omega)
  rw [show ((n : Int).toNat) = n by simp] at hmk
  rw [rep_refs] at hmk
  rw [fnc_eq cfg_ext, body_eq Try.func19 rfl rfl]
  simp [argsσ, Vm.results, in_spec, h1, h2, hmk, newRing, exp_own, elsOf_own, List.take_of_length_le, cleans_refs, encRing, -List.map_replicate]
theorem new_no (room most : Int) (h : (inb most 1 1024 && inb room 1 most) = false) : fnc Try.prog cfg R 19 [I room, I most] = some (.tup [encRing noRing, .bool false]) := by
  rw [fnc_eq cfg_ext, body_eq Try.func19 rfl rfl]
  cases h1 : inb most 1 1024 with
  | false => simp [argsσ, Vm.results, in_spec, h1, noRing]
  | true =>
    have h2 : inb room 1 most = false := by simpa [h1] using h
    simp [argsσ, Vm.results, in_spec, h1, h2, noRing]
theorem small_spec (r : Ring) : fnc Try.prog cfg R 9 [encRing r] = some (.bool (decide (r.l.length ≤ 60))) := by
  have hl : (r.buf.getD []).length = r.l.length := rfl
  rw [fnc_eq cfg_ext, body_eq Try.func9 rfl rfl]
  simp [argsσ, Vm.results, hl]
  omega
theorem rmay_spec (r : Ring) : fnc Try.prog cfg R 26 [encRing r] = some (.bool (may r)) := by
  have hl : (r.buf.getD []).length = r.l.length := rfl
  rw [fnc_eq cfg_ext, body_eq Try.func26 rfl rfl]
  have c1 : decide (1 ≤ r.most) = true ∨ decide (1 ≤ r.most) = false := by cases decide (1 ≤ r.most) <;> simp
  cases h1 : decide (1 ≤ r.most)
  · have hm : may r = false := by simp [may, inb, h1]
    simp [argsσ, Vm.results, hl, h1, hm]
  cases h2 : decide (r.most ≤ 1024)
  · have hm : may r = false := by simp [may, inb, h1, h2]
    simp [argsσ, Vm.results, hl, h1, h2, hm]
  cases h3 : decide ((1 : Int) ≤ r.l.length)
  · have hm : may r = false := by simp [may, inb, h1, h2, h3]
    simp [argsσ, Vm.results, hl, h1, h2, h3, hm]
  cases h4 : decide ((r.l.length : Int) ≤ r.most)
  · have hm : may r = false := by simp [may, inb, h1, h2, h3, h4]
    simp [argsσ, Vm.results, hl, h1, h2, h3, h4, hm]
  cases h5 : decide (0 ≤ r.head)
  · have hm : may r = false := by simp [may, inb, h1, h2, h3, h4, h5]
    simp [argsσ, Vm.results, hl, h1, h2, h3, h4, h5, hm]
  cases h6 : decide (r.head < r.l.length)
  · have hm : may r = false := by
      have : decide (r.head ≤ (r.l.length : Int) - 1) = false := by simp at h6 ⊢; omega
      simp [may, inb, h1, h2, h3, h4, h5, this]
    simp [argsσ, Vm.results, hl, h1, h2, h3, h4, h5, h6, hm]
  cases h7 : decide (0 ≤ r.many)
  · have hm : may r = false := by simp [may, inb, h1, h2, h3, h4, h5, h7]
    simp [argsσ, Vm.results, hl, h1, h2, h3, h4, h5, h6, h7, hm]
  cases h8 : decide (r.many ≤ r.l.length)
  · have hm : may r = false := by simp [may, inb, h1, h2, h3, h4, h5, h7, h8]
    simp [argsσ, Vm.results, hl, h1, h2, h3, h4, h5, h6, h7, h8, hm]
  have hm : may r = true := by
    have : decide (r.head ≤ (r.l.length : Int) - 1) = true := by simp at h6 ⊢; omega
    simp only [may, inb, h1, h2, h3, h4, h5, h7, h8, this]; rfl
  simp [argsσ, Vm.results, hl, h1, h2, h3, h4, h5, h6, h7, h8, hm]
end Go.Proofs.YtclfpfdpaigdiaaW.Rg
