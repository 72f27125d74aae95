/- pen.Set and pen.Drop. No conditions. -/
import Derived.Test.YtopgmnjijioheaaVmP8
set_option linter.unusedVariables false
set_option linter.unusedSimpArgs false
namespace Go.Proofs.YtopgmnjijioheaaW.Rg
open Go.Proofs.YtopgmnjijioheaaW.Vm Go.Proofs.YtopgmnjijioheaaW.Md
open Go Go.Proofs
theorem op_mkf {P : Program} {cfg : Cfg} {run : Run} {st : St} {dst ty pos af g} (f : Fn) (a b : Array Operand) : opD P cfg run ⟨dst, .makeFunc f a b, ty, pos, af, g⟩ st = (evs st.σ a.toList).bind fun x => (evs st.σ b.toList).bind fun y => some (.clo f x y, st.h) := by
  simp only [opD]
  cases evs st.σ a.toList <;> cases evs st.σ b.toList <;> rfl
theorem pset_spec (cs : Option (List Ce)) (fr : Option (List Int)) (m : Int) (r : Rf) (x : Fx) (hs : (cs.getD []).length ≤ 2 ^ 30) (hf : (fr.getD []).length ≤ 2 ^ 30) : Qs (setPn ⟨cs.getD [], fr.getD [], m⟩ r x) (fnc Try.prog cfg R 14 [pnC (encL 18 encC cs) (encL 1 I fr) m, encRf r, encX x]) := by
  have exc : ∀ (h : List Ob) (b : Option (List Ce)), exp1 h (encL 18 encC b) = some (encL 18 encC b) := fun h z => exp_clean (by simp) (by simp)
  have exi : ∀ (h : List Ob) (b : Option (List Int)), exp1 h (encL 1 I b) = some (encL 1 I b) := fun h z => exp_clean (by simp) (by simp)
  have no : (mayPn ⟨cs.getD [], fr.getD [], m⟩ = false ∨ heldPn ⟨cs.getD [], fr.getD [], m⟩ r = false) → Qs (setPn ⟨cs.getD [], fr.getD [], m⟩ r x) (fnc Try.prog cfg R 14 [pnC (encL 18 encC cs) (encL 1 I fr) m, encRf r, encX x]) := fun h => by
    obtain ⟨t, ht⟩ := change_no cs fr m r (.clo (.func 33) [] [.ptr 2 0 0 0]) [⟨0, 3, [pnC (encL 18 encC cs) (encL 1 I fr) m], 0⟩, ⟨0, 2, [encRf r], 0⟩, ⟨0, 16, [encX x], 0⟩, ⟨0, 3, [pnC .snil .snil 0], 0⟩] hs hf h
    have e : setPn ⟨cs.getD [], fr.getD [], m⟩ r x = (⟨cs.getD [], fr.getD [], m⟩, if mayPn ⟨cs.getD [], fr.getD [], m⟩ = false then 1 else 121) := by
      unfold setPn
      rcases h with h | h
      · rw [if_pos h, if_pos h]
      · by_cases k : mayPn ⟨cs.getD [], fr.getD [], m⟩ = false
        · rw [if_pos k, if_pos k]
        · rw [if_neg k, if_pos h, if_neg k]
    rw [e]
    generalize (if mayPn ⟨cs.getD [], fr.getD [], m⟩ = false then (1 : Int) else 121) = er at *
    refine ⟨_, ?_, cs, fr, rfl, rfl, rfl⟩
    rw [fnc_at rfl, body_eq Try.func14 rfl rfl]
    simp [argsσ, Vm.results, exc, exi, ht, op_mkf]
  cases k1 : mayPn ⟨cs.getD [], fr.getD [], m⟩
  · exact no (.inl k1)
  cases k2 : heldPn ⟨cs.getD [], fr.getD [], m⟩ r
  · exact no (.inr k2)
  have e : setPn ⟨cs.getD [], fr.getD [], m⟩ r x = (⟨(cs.getD []).set r.ag.toNat ⟨r.gen, true, x⟩, fr.getD [], m⟩, 0) := by
    unfold setPn; rw [if_neg (by rw [k1]; decide), if_neg (by rw [k2]; decide)]
  obtain ⟨C, F, H', ec, PV, hk, hlen, lo⟩ := change_set cs fr m r x [⟨0, 3, [pnC (encL 18 encC cs) (encL 1 I fr) m], 0⟩, ⟨0, 2, [encRf r], 0⟩, ⟨0, 16, [encX x], 0⟩, ⟨0, 3, [pnC .snil .snil 0], 0⟩] (k := 2) rfl hs hf k1 k2
  simp only [List.length_cons, List.length_nil] at hk hlen lo
  have g3 : H'[3]? = some ⟨0, 3, [pnC .snil .snil 0], 0⟩ := hk 3 (by omega)
  have v3 : ∀ p, (H'.set 3 p)[3]? = some p := fun p => List.getElem?_set_self (by omega)
  have hfin := fun o : Ob => PV.set (k := 3) (fun i hi => by have := lo i hi; omega) o
  have x1 := fun o => (hfin o).exp.1
  have x2 := fun o => (hfin o).exp.2.1
  have x3 := (hfin ⟨0, 3, [pnC C F m], 0⟩).exp.2.2
  have n1 := PV.c.one; have n2 := PV.f.one; have q1 := PV.c.cells; have q2 := PV.f.cells
  rw [e]
  refine ⟨_, ?_, x3⟩
  simp only at x1 x2
  generalize oS ((cs.getD []).set r.ag.toNat ⟨r.gen, true, x⟩) C = oc at *
  generalize oS (fr.getD []) F = ofr at *
  rw [fnc_at rfl, body_eq Try.func14 rfl rfl]
  simp [argsσ, Vm.results, exc, exi, ec, op_mkf, g3, v3, n1, n2, q1, q2, x1, x2, -getElem?_pos]
theorem band_mask (s t : Operand) (g : Int) (h0 : 0 ≤ g) (h1 : g ≤ 4294967296) : binD Try.prog .and 3 s t (I g) (I 4294967295) = some (I (g % 4294967296)) := by
  obtain ⟨n, rfl⟩ : ∃ n : Nat, g = n := ⟨g.toNat, by omega⟩
  have e : (BitVec.ofInt 64 (n : Int) &&& BitVec.ofInt 64 4294967295).toNat = n % 4294967296 := by
    rw [BitVec.toNat_and, BitVec.toNat_ofInt, BitVec.toNat_ofInt]
    have e1 : ((n : Int) % ((2 ^ 64 : Nat) : Int)).toNat = n := by omega
    have e2 : ((4294967295 : Int) % ((2 ^ 64 : Nat) : Int)).toNat = 2 ^ 32 - 1 := by decide
    rw [e1, e2, Nat.and_two_pow_sub_one_eq_mod]
  simp [binD, scal, eqGuard, binOp, Op.intBits, semPure, bind, Sem.bind, pure, ofVal1]
  show IntKind.i64.wrap (((BitVec.ofInt 64 (n : Int) &&& BitVec.ofInt 64 4294967295).toNat : Nat) : Int) = _
  rw [e]
  exact wr (by omega) (by omega)
end Go.Proofs.YtopgmnjijioheaaW.Rg
