/- A new frame. No conditions. -/
import Derived.Test.YtghidjgejmmcmaaVmG14
set_option linter.unusedVariables false
set_option linter.unusedSimpArgs false
namespace Go.Proofs.YtghidjgejmmcmaaW.Rg
open Go.Proofs.YtghidjgejmmcmaaW.Vm Go.Proofs.YtghidjgejmmcmaaW.Md
open Go Go.Proofs
def fr0 : Fr := ⟨0, 0, [], [], [], 0, 0, 0, 0, 0, o0, ⟨0, 0⟩, 0⟩
theorem any_may (l : List Vl) : l.any (fun x => !x.may) = !l.all Vl.may := by
  induction l with
  | nil => rfl
  | cons x l ih => simp [ih]
theorem new_spec (p : Option (List Fu)) (hl : (p.getD []).length < 2 ^ 63) (fn : Int) (args : Option (List Vl)) (s : Int) (ha : (args.getD []).length < 2 ^ 62) :
    ∃ d, fnc Try.prog cfg R 10 [encProg p, I fn, encL 2 encV args, I s] = some (.tup [d, .bool (newF (p.getD []) fn (args.getD []) s).isSome]) ∧ IsF d ((newF (p.getD []) fn (args.getD []) s).getD fr0) := by
  have hM := may_spec p hl
  have zz : IsF zF fr0 := ⟨none, none, none, rfl, rfl, rfl, rfl⟩
  have hC := contains_val args (fun x => !x.may) 24 [] rfl rfl rfl new1_spec (by omega)
  rw [any_may] at hC
  have no : newF (p.getD []) fn (args.getD []) s = none → (fnc Try.prog cfg R 10 [encProg p, I fn, encL 2 encV args, I s] = some (.tup [zF, .bool false])) → ∃ d, fnc Try.prog cfg R 10 [encProg p, I fn, encL 2 encV args, I s] = some (.tup [d, .bool (newF (p.getD []) fn (args.getD []) s).isSome]) ∧ IsF d ((newF (p.getD []) fn (args.getD []) s).getD fr0) := by
    intro h1 h2; rw [h1]; exact ⟨zF, h2, zz⟩
  cases k1 : mayP (p.getD [])
  · refine no (by unfold newF; rw [if_neg (fun h => by rw [k1] at h; cases h.1)]) ?_
    rw [k1] at hM
    rw [fnc_at rfl, body_eq Try.func10 rfl rfl]
    simp [argsσ, Vm.results, hM]
  rw [k1] at hM
  cases k2 : decide (fn < 0)
  case true =>
    refine no (by unfold newF; rw [if_neg (fun h => by have := of_decide_eq_true k2; have := h.2.1; omega)]) ?_
    rw [fnc_at rfl, body_eq Try.func10 rfl rfl]
    simp [argsσ, Vm.results, hM, k2]
  have m2 := of_decide_eq_false k2
  cases k3 : decide (((p.getD []).length : Int) ≤ fn)
  case true =>
    refine no (by unfold newF; rw [if_neg (fun h => by have := of_decide_eq_true k3; have := h.2.2.1; omega)]) ?_
    rw [fnc_at rfl, body_eq Try.func10 rfl rfl]
    simp [argsσ, Vm.results, hM, k2, k3]
  have m3 := of_decide_eq_false k3
  cases k4 : decide (s < 0)
  case true =>
    refine no (by unfold newF; rw [if_neg (fun h => by have := of_decide_eq_true k4; have := h.2.2.2; unfold isS at this; simp at this; omega)]) ?_
    rw [fnc_at rfl, body_eq Try.func10 rfl rfl]
    simp [argsσ, Vm.results, hM, k2, k3, k4]
  cases k5 : decide (4294967295 < s)
  case true =>
    refine no (by unfold newF; rw [if_neg (fun h => by have := of_decide_eq_true k5; have := h.2.2.2; unfold isS at this; simp at this; omega)]) ?_
    rw [fnc_at rfl, body_eq Try.func10 rfl rfl]
    simp [argsσ, Vm.results, hM, k2, k3, k4, k5]
  have hs : isS s = true := by unfold isS; have := of_decide_eq_false k4; have := of_decide_eq_false k5; exact decide_eq_true (by omega)
  obtain ⟨n, rfl⟩ : ∃ n : Nat, fn = n := ⟨fn.toNat, by omega⟩
  have k3' : decide ((p.getD []).length ≤ n) = false := df (by omega)
  have hn : n < (p.getD []).length := by omega
  have hix := idxD_nat .i64 hn
  have hg : (p.getD [])[n]? = some (p.getD [])[n] := List.getElem?_eq_getElem hn
  have hfm := mayP_f k1 (List.getElem_mem hn)
  have hh := fmay_head hfm
  have hnew : newF (p.getD []) n (args.getD []) s = if (p.getD [])[n].arity ≤ (p.getD [])[n].locals ∧ ((args.getD []).length : Int) = (p.getD [])[n].arity ∧ (args.getD []).all Vl.may = true then
        some ⟨n, 0, [], args.getD [] ++ List.replicate ((p.getD [])[n].locals.toNat - (args.getD []).length) v0, List.replicate (p.getD [])[n].slots.toNat s0, s, 0, 0, 0, 0, o0, noK, 0⟩ else none := by
    unfold newF
    rw [if_pos ⟨k1, by omega, by omega, hs⟩, Int.toNat_natCast, hg]
  generalize (p.getD [])[n] = x at *
  cases j1 : decide (x.locals < x.arity)
  case true =>
    refine no (by rw [hnew, if_neg (fun h => by have := of_decide_eq_true j1; omega)]) ?_
    rw [fnc_at rfl, body_eq Try.func10 rfl rfl]
    simp [argsσ, Vm.results, hM, k2, k3', k4, k5, hix, hg, j1]
  have n1 := of_decide_eq_false j1
  cases j2 : decide (((args.getD []).length : Int) = x.arity)
  case false =>
    refine no (by rw [hnew, if_neg (fun h => (of_decide_eq_false j2) h.2.1)]) ?_
    rw [fnc_at rfl, body_eq Try.func10 rfl rfl]
    simp [argsσ, Vm.results, hM, k2, k3', k4, k5, hix, hg, j1, j2]
  have n2 := of_decide_eq_true j2
  cases j3 : (args.getD []).all Vl.may
  case false =>
    refine no (by rw [hnew, if_neg (fun h => by rw [j3] at h; cases h.2.2)]) ?_
    rw [j3] at hC
    rw [fnc_at rfl, body_eq Try.func10 rfl rfl]
    simp [argsσ, Vm.results, hM, k2, k3', k4, k5, hix, hg, j1, j2, hC]
  rw [j3] at hC
  rw [hnew, if_pos ⟨by omega, n2, j3⟩]
  obtain ⟨l, hl'⟩ : ∃ l : Nat, x.locals = l := ⟨x.locals.toNat, by have := hh.2.2.1; omega⟩
  obtain ⟨q, hq'⟩ : ∃ q : Nat, x.slots = q := ⟨x.slots.toNat, by have := hh.2.2.2.2.1; omega⟩
  have hl16 : l ≤ 16 := by have := hh.2.2.2.1; omega
  have hq8 : q ≤ 8 := by have := hh.2.2.2.2.2; omega
  have hal : (args.getD []).length ≤ l := by omega
  refine ⟨frC ⟨n, 0, [], args.getD [] ++ List.replicate (l - (args.getD []).length) v0, List.replicate q s0, s, 0, 0, 0, 0, o0, noK, 0⟩ .snil (encL 2 encV (some (args.getD [] ++ List.replicate (l - (args.getD []).length) v0))) (encL 6 encSlt (some (List.replicate q s0))), ?_, ?_⟩
  · have mk1 := fun (h : List Ob) => mk_slice (P := Try.prog) el28 sz33 by33 ze33 (by simp) (by decide) (by decide) h .i64 .i64 l l (by omega) (by omega) (by omega)
    have mk2 := fun (h : List Ob) => mk_slice (P := Try.prog) el34 sz60 by60 ze60 (by simp) (by decide) (by decide) h .i64 .i64 q q (by omega) (by omega) (by omega)
    simp only [Int.toNat_natCast] at mk1 mk2
    have r1 : List.replicate l (D.agg [.int .i64 0, .int .i64 0]) = (List.replicate l v0).map encV := by simp [v0]
    have r2 : List.replicate q (D.agg [.int .i64 0, .int .i64 0, .int .i64 0, .int .i64 0, .int .i64 0, .int .i64 0]) = (List.replicate q s0).map encSlt := by simp [s0, o0, v0]
    rw [r1] at mk1
    rw [r2] at mk2
    have cp : ∀ (a b : Ob), ∃ k : D, cpN 2 [a, b, ⟨0, 2, (List.replicate l v0).map encV, 0⟩] (.own 2 2 0 0 l) (Nat.min (args.getD []).length l) ((args.getD []).map encV) = some (k, [a, b, ⟨0, 2, (args.getD [] ++ List.replicate (l - (args.getD []).length) v0).map encV, 0⟩]) := by
      intro a b
      have hm : Nat.min (args.getD []).length l = (args.getD []).length := Nat.min_eq_left hal
      rw [hm]
      unfold cpN
      by_cases h0 : (args.getD []).length = 0
      · rw [if_pos h0]
        have : args.getD [] = [] := List.length_eq_zero_iff.1 h0
        rw [this]; exact ⟨.int .i64 0, by simp⟩
      · rw [if_neg h0]
        refine ⟨.int .i64 (args.getD []).length, ?_⟩
        simp
        rw [List.take_of_length_le (by simp)]
    simp only [← hl'] at mk1
    simp only [← hq'] at mk2
    obtain ⟨kk, cp⟩ := cp ⟨0, 16, [zF], 0⟩ ⟨0, 4, [encFunc x], 0⟩
    have hnr := noRef_spec
    simp only [encRf, noK] at hnr
    have hd := dr10_8
    simp [opsAt, opsIn, Try.f10] at hd
    have hdw := Wdraw hd
    clear hd
    have cl1 := cl_vals (args.getD [] ++ List.replicate (l - (args.getD []).length) v0)
    have cl2 := cl_slts (List.replicate q s0)
    have hlen : (args.getD []).length + (l - (args.getD []).length) = l := by omega
    have tk1 : ((args.getD [] ++ List.replicate (l - (args.getD []).length) v0).map encV).take l = (args.getD [] ++ List.replicate (l - (args.getD []).length) v0).map encV := List.take_of_length_le (by simp; omega)
    have tk2 : ((List.replicate q s0).map encSlt).take q = (List.replicate q s0).map encSlt := List.take_of_length_le (by simp)
    rw [fnc_at rfl, body_eq Try.func10 rfl rfl]
    simp [argsσ, Vm.results, hM, k2, k3', k4, k5, hix, hg, j1, j2, hC, mk1, mk2, cp, hnr, hdw, exp_own, elsOf_own, hlen, tk1, tk2, cl1, cl2, ownK_clean, logL, loud, isE, drawChk, -List.map_append, -List.map_replicate]
    simp [encL, o0, v0, noK]
  · exact ⟨none, some _, some _, rfl, rfl, by rw [hl']; simp, by rw [hq']; simp⟩
end Go.Proofs.YtghidjgejmmcmaaW.Rg
