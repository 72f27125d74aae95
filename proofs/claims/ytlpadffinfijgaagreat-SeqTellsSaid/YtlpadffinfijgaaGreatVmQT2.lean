/- SeqTells. No conditions. -/
import Derived.Test.YtlpadffinfijgaaGreatVmQT1
set_option linter.unusedVariables false
set_option linter.unusedSimpArgs false
set_option maxRecDepth 10000
namespace Go.Proofs.YtlpadffinfijgaaGreatW.Rg
open Go.Proofs.YtlpadffinfijgaaGreatW.Vm Go.Proofs.YtlpadffinfijgaaGreatW.Md
open Go Go.Proofs
theorem evS_no {p : List Fu} {a : List Vl} {s n : Int} (h : ¬ (good p = true ∧ (newF p 0 a s).isSome = true ∧ 1 ≤ n ∧ n ≤ 100000)) : evS p a s n = (o0, 0, 1) := by
  unfold evS
  rw [if_neg]
  simp only [Bool.and_eq_true, decide_eq_true_eq]
  exact fun k => h ⟨k.1.1.1, k.1.1.2, k.1.2, k.2⟩
/-- THE DOCUMENT: WHAT A PROGRAM TELLS. -/
theorem reval_spec (p : Option (List Fu)) (a : Option (List Vl)) (s n : Int) (hb : Bnd (p.getD [])) (hl : (p.getD []).length < 2 ^ 62) (ha : (a.getD []).length < 2 ^ 62) : fnc Tryz.prog cfg R 7 [encProg p, encL 2 encV a, I s, I n] = some (evD (evS (p.getD []) (a.getD []) s n)) := by
  obtain ⟨d, e1, i1⟩ := rnew_spec p hb (by omega) 0 a s ha
  have hG := rgood_spec p hb
  have i0 := i1
  obtain ⟨S1, L1, Z1, rfl, j1, j2, j3⟩ := i1
  rw [fnc_at rfl, body_eq Tryz.func7 rfl rfl]
  cases c1 : good (p.getD [])
  · rw [c1] at hG
    rw [evS_no fun h => by rw [c1] at h; exact absurd h.1 (by decide)]
    simp [argsσ, Vm.results, e1, hG, o0, v0, -getElem?_pos]
  rw [c1] at hG
  cases c2 : newF (p.getD []) 0 (a.getD []) s with
  | none =>
    rw [c2] at e1
    rw [evS_no fun h => by rw [c2] at h; exact absurd h.2.1 (by decide)]
    simp only [Option.isSome_none] at e1
    simp [argsσ, Vm.results, e1, hG, o0, v0, -getElem?_pos]
  | some f =>
    rw [c2] at e1 i0
    simp only [Option.isSome_some, Option.getD_some] at e1 i0
    cases c3 : decide (n < 1)
    case true =>
      have c3' := of_decide_eq_true c3
      rw [evS_no fun h => by omega]
      simp [argsσ, Vm.results, e1, hG, c3, c3', o0, v0, -getElem?_pos]
    have c3' := of_decide_eq_false c3
    cases c4 : decide (100000 < n)
    case true =>
      have c4' := of_decide_eq_true c4
      rw [evS_no fun h => by omega]
      simp [argsσ, Vm.results, e1, hG, c3, c3', c4, c4', o0, v0, -getElem?_pos]
    have c4' := of_decide_eq_false c4
    obtain ⟨k, rfl⟩ : ∃ k : Nat, n = k := ⟨n.toNat, by omega⟩
    have S := new_sf c1 c2
    have e2 := rr_out c1 hb (k + 1) f k _ S (by omega) (by omega) i0
    rw [ev_of c1 c2 (by omega) (by omega)]
    cases hr : runS (p.getD []) (k + 1) f k with
    | none =>
      rw [hr] at e2
      simp only at e2
      simp [argsσ, Vm.results, e1, hG, c3, c3', c4, c4', e2, o0, v0, -getElem?_pos]
    | some q =>
      obtain ⟨o, m⟩ := q
      rw [hr] at e2
      simp only at e2
      have hm := runS_lt _ _ _ _ _ hr
      have dm : decide ((m : Int) < 0) = false := df (by omega)
      have dm' : ¬ ((m : Int) < 0) := by omega
      have w : IntKind.i64.wrap ((k : Int) - (m : Int)) = ((k - m : Nat) : Int) := by rw [wr (by omega) (by omega)]; omega
      simp [argsσ, Vm.results, e1, hG, c3, c3', c4, c4', e2, dm, dm', w, -getElem?_pos]
theorem tells10_law (p : Option (List Fu)) (a : Option (List Vl)) (s n : Int) (hb : Bnd (p.getD [])) : fnc Tryz.prog cfgE RE 3 [.agg [encProg p, encL 2 encV a, I s], I n] = some (.bool true) := by
  have hS := small10_spec p a s
  rw [fnc_at (cfgE_ext rfl), body_eq Tryz.func3 rfl rfl]
  cases k1 : (small (p.getD []) 300 && decide ((a.getD []).length ≤ 40))
  · rw [k1] at hS
    simp [argsσ, Vm.results, hS, fixed10, -getElem?_pos]
  rw [k1] at hS
  cases k2 : decide (3000 < n)
  case true => simp [argsσ, Vm.results, hS, fixed10, k2, of_decide_eq_true k2, -getElem?_pos]
  have k2' := of_decide_eq_false k2
  simp only [Bool.and_eq_true, decide_eq_true_eq] at k1
  have hl := small_len k1.1
  obtain ⟨o, c, e, he⟩ : ∃ o c e, evS (p.getD []) (a.getD []) s n = (o, c, e) := ⟨_, _, _, rfl⟩
  have f1 := eval_at (by omega) (by have := k1.2; omega) he
  have f2 := up (reval_spec p a s n hb (by omega) (by have := k1.2; omega))
  rw [he] at f2
  simp [argsσ, Vm.results, hS, fixed10, k2, k2', f1, f2, -getElem?_pos]
end Go.Proofs.YtlpadffinfijgaaGreatW.Rg
