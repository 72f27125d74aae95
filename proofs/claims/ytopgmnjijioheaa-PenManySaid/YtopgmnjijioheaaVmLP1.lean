/- PenTells. No conditions. -/
import Derived.Test.YtopgmnjijioheaaVmPL0
set_option linter.unusedVariables false
set_option linter.unusedSimpArgs false
namespace Go.Proofs.YtopgmnjijioheaaW.Rg
open Go.Proofs.YtopgmnjijioheaaW.Vm Go.Proofs.YtopgmnjijioheaaW.Md
open Go Go.Proofs
theorem refs_self {a b : Option (List Rf)} (h : a.getD [] = b.getD []) (hs : (a.getD []).length < 2 ^ 62) : fnc Try.prog cfg R 24 [encL 2 encRf a, encL 2 encRf b] = some (.bool true) := by
  have := refs_spec a b hs
  rw [dt h] at this; exact this
theorem refsPn_len (p : Pn) : (refsPn p).length ≤ p.cells.length := by
  unfold refsPn
  split
  · exact usedOf_len _ _
  · simp
theorem eqb_self (s t : Operand) (x : Bool) : binD Try.prog .eql 4 s t (.bool x) (.bool x) = some (.bool true) := by
  cases x <;> kernel_rfl
set_option maxHeartbeats 4000000 in
theorem tells12_law (cs : Option (List Ce)) (fr : Option (List Int)) (p : Pn) (h : Rp cs fr p) (hl : p.cells.length < 2 ^ 47) (hx : ∀ c ∈ p.cells, okX c.x) (r : Rf) (x : Fx) (hxx : okX x) :
    fnc Try.prog cfg R 3 [encP cs fr p, encRf r, encX x] = some (.bool true) := by
  have exc : ∀ (h : List Ob) (b : Option (List Ce)), exp1 h (encL 18 encC b) = some (encL 18 encC b) := fun h z => exp_clean (by simp) (by simp)
  have exi : ∀ (h : List Ob) (b : Option (List Int)), exp1 h (encL 1 I b) = some (encL 1 I b) := fun h z => exp_clean (by simp) (by simp)
  have exv : ∀ (h : List Ob) (b : Option (List Vl)), exp1 h (encL 2 encV b) = some (encL 2 encV b) := fun h z => exp_clean (by simp) (by simp)
  have exz : ∀ (h : List Ob) (b : Option (List Slt)), exp1 h (encL 6 encSlt b) = some (encL 6 encSlt b) := fun h z => exp_clean (by simp) (by simp)
  have exr : ∀ (h : List Ob) (b : Option (List Rf)), exp1 h (encL 2 encRf b) = some (encL 2 encRf b) := fun h z => exp_clean (by simp) (by simp)
  have hS := small_P h 30 (by omega)
  have hF := xsmall_spec x
  rw [fnc_at rfl, body_eq Try.func3 rfl rfl]
  cases k1 : smallPn p 30
  · rw [k1] at hS
    simp [argsσ, Vm.results, hS, fixed12, exc, exi]
  have b := small_b (by decide) k1 hx
  rw [k1] at hS
  cases k2 : smallF x.f
  · rw [k2] at hF
    simp [argsσ, Vm.results, hS, hF, fixed12, exc, exi, exv, exz]
  rw [k2] at hF
  obtain ⟨c1, f1, e1, R1⟩ := lay_P h b x
  obtain ⟨c2, f2, e2, R2⟩ := rlay_P h b x
  obtain ⟨c3, f3, e3, R3⟩ := set_P h b r x
  obtain ⟨c4, f4, e4, R4⟩ := rset_P h b r x
  obtain ⟨c5, f5, e5, R5⟩ := drop_P h b r
  obtain ⟨c6, f6, e6, R6⟩ := rdrop_P h b r
  have b1 := lay_b b hxx
  have b3 := set_b b r hxx
  have b5 := drop_b b r
  have e7 := get_P h b r
  have e8 := rget_P h b r
  have e9 := pnew_spec r.ag
  have e10 := rpnew_spec r.ag
  have q1 := rsame_P R1 b1 R2
  have q2 := rsame_P R3 b3 R4
  have q3 := rsame_P R5 b5 R6
  have q4 := xsame_P (y := (getPn p r).getD fx0) (get_x b r)
  have q5 := rsame_P (cs := none) (fr := none) (p := ⟨[], [], ((newPn r.ag).getD ⟨[], [], 0⟩).most⟩) ⟨rfl, rfl⟩ ⟨by simp, by simp, by simp⟩ (c2 := none) (f2 := none) (q := ⟨[], [], ((newPn r.ag).getD ⟨[], [], 0⟩).most⟩) ⟨rfl, rfl⟩
  obtain ⟨o1, e11, r1⟩ := refs_P h b
  obtain ⟨o2, e12, r2⟩ := rrefs_P h b
  have q6 := refs_self (r1.trans r2.symm) (by rw [r1]; have := refsPn_len p; omega)
  have q7 := may_P h b
  have q8 := rmay_P h b
  have q9 := same_P h b R1
  have q10 := rsame_P h b R1
  rw [samePn_self] at q1 q2 q3 q5
  rw [decide_eq_true (Eq.refl _)] at q4
  have hd := dr3_15
  simp [opsAt, opsIn, Try.f3] at hd
  have hdw := Wdraw0 hd
  clear hd R1 R2 R3 R4 R5 R6 b1 b3 b5 r1 r2 b h k1 k2
  simp only [encP, encL_none] at q5
  generalize (layPn p x).1 = P1 at *
  generalize (layPn p x).2.1 = rf1 at *
  generalize (layPn p x).2.2 = n1 at *
  generalize (setPn p r x).1 = P2 at *
  generalize (setPn p r x).2 = n2 at *
  generalize (dropPn p r).1 = P3 at *
  generalize (dropPn p r).2 = n3 at *
  generalize (getPn p r).getD fx0 = x2 at *
  generalize (getPn p r).isSome = B1 at *
  generalize ((newPn r.ag).getD ⟨[], [], 0⟩).most = m1 at *
  generalize (newPn r.ag).isSome = B2 at *
  generalize mayPn p = B3 at *
  generalize samePn p P1 = B4 at *
  have nq := fun s t => neq_rf s t rf1 rf1
  rw [decide_eq_true (Eq.refl _)] at nq
  simp [argsσ, Vm.results, hS, hF, fixed12, exc, exi, exv, exz, exr, e1, e2, e3, e4, e5, e6, e7, e8, e9, e10, e11, e12, q1, q2, q3, q4, q5, q6, q7, q8, q9, q10, nq, eqb_self, hdw]
end Go.Proofs.YtopgmnjijioheaaW.Rg
