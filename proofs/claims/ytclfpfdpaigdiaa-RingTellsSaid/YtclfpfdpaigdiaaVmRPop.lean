import Derived.Test.YtclfpfdpaigdiaaVmR10
set_option linter.unusedVariables false
set_option linter.unusedSimpArgs false
namespace Go.Proofs.YtclfpfdpaigdiaaW.Rg
open Go.Proofs.YtclfpfdpaigdiaaW.Vm
open Go Go.Proofs
/-- a ring without its last one -/
def popped (r : Ring) : Ring := { r with many := r.many - 1 }
theorem Ok.popped {r : Ring} (h : Ok r) (h0 : 1 ≤ r.many) : Ok (popped r) :=
  ⟨h.h1, h.h2, h.h3, h.h4, h.h5, by show 0 ≤ r.many - 1; omega, by have := h.h7; show r.many - 1 ≤ (r.l.length : Int); omega⟩
theorem pop_ok {r : Ring} (h : Ok r) (h0 : r.many ≠ 0) : fnc Try.prog cfg R 13 [encRing r] = some (.tup [encRing (popped r), encRef (item r (r.many.toNat - 1)), .bool true]) := by
  have := h.h1; have := h.h2; have := h.h3; have := h.h4; have := h.h5; have := h.h6; have := h.h7
  have hok := h.popped (by omega)
  obtain ⟨n, hn⟩ : ∃ n : Nat, r.many - 1 = n := ⟨(r.many - 1).toNat, by omega⟩
  have hp := place_ok (popped r) hok n (by omega)
  rw [show r.many.toNat - 1 = n by omega]
  have hwr : IntKind.i64.wrap (r.many - 1) = r.many - 1 := IntWalk.i64_in _ (by omega)
  have hq : (r.head.toNat + n) % r.l.length < r.l.length := Nat.mod_lt _ (by omega)
  have hit : item r n = r.l.getD ((r.head.toNat + n) % r.l.length) rf0 := rfl
  rw [show (popped r).head = r.head from rfl, show (popped r).l = r.l from rfl] at hp
  generalize (r.head.toNat + n) % r.l.length = q at *
  have hix := ix_encS r.buf q (by constructor; omega; show (q : Int) < r.l.length; omega)
  rw [show (q : Int).toNat = q by simp] at hix
  have hg := l_get r hq
  rw [← hit] at hg
  have e : decide (r.many = 0) = false := by simp [h0]
  have hd := dr13_4
  simp [opsAt, opsIn, Try.f13] at hd
  have hdw := Wdraw hd
  rw [← hn] at hp
  unfold popped at hp ⊢
  rw [fnc_eq cfg_ext, body_eq Try.func13 rfl rfl]
  simp [argsσ, Vm.results, may_ok h, e, hp, hix, hg, hwr, hdw, logL, loud, isE, drawChk]
theorem pop_no {r : Ring} (h : Ok r) (h0 : r.many = 0) : fnc Try.prog cfg R 13 [encRing r] = some (.tup [encRing r, encRef rf0, .bool false]) := by
  have e : decide (r.many = 0) = true := by simp [h0]
  rw [fnc_eq cfg_ext, body_eq Try.func13 rfl rfl]
  simp [argsσ, Vm.results, may_ok h, e, rf0]
theorem pop_bad {r : Ring} (hl : r.l.length < 2 ^ 62) (h : ¬ Ok r) : fnc Try.prog cfg R 13 [encRing r] = some (.tup [encRing r, encRef rf0, .bool false]) := by
  rw [fnc_eq cfg_ext, body_eq Try.func13 rfl rfl]
  simp [argsσ, Vm.results, may_no hl h, rf0]
end Go.Proofs.YtclfpfdpaigdiaaW.Rg
