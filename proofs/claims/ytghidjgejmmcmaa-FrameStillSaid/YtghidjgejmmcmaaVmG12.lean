/- Equal frames, by the program and by the document. No conditions. -/
import Derived.Test.YtghidjgejmmcmaaVmG10
set_option linter.unusedVariables false
set_option linter.unusedSimpArgs false
namespace Go.Proofs.YtghidjgejmmcmaaW.Rg
open Go.Proofs.YtghidjgejmmcmaaW.Vm Go.Proofs.YtghidjgejmmcmaaW.Md
open Go Go.Proofs
@[simp] theorem ixL_val (b : Option (List Vl)) (i : D) : indexAddrD Try.prog 28 (encL 2 encV b) i = (idxD (b.getD []).length i).map fun i => .fptr 2 ((b.getD []).map encV) i 0 := ixL un28 sz33 b i
@[simp] theorem ixL_slt (b : Option (List Slt)) (i : D) : indexAddrD Try.prog 34 (encL 6 encSlt b) i = (idxD (b.getD []).length i).map fun i => .fptr 6 ((b.getD []).map encSlt) i 0 := ixL un34 sz60 b i
theorem neq_slt (s t : Operand) (x y : Slt) : binD Try.prog .neq 60 s t (encSlt x) (encSlt y) = some (.bool (!decide (x = y))) := by
  obtain ⟨a, ⟨b, c⟩, ⟨d, ⟨e, g⟩⟩⟩ := x
  obtain ⟨a', ⟨b', c'⟩, ⟨d', ⟨e', g'⟩⟩⟩ := y
  simp only [binD, scal, eqD, ft60, scalsEq, scalEq]
  simp only [Option.map_some, if_true, Option.some.injEq, D.bool.injEq]
  rw [Bool.eq_iff_iff]
  simp only [Bool.not_eq_true', decide_eq_false_iff_not, Slt.mk.injEq, Rf.mk.injEq, Ou.mk.injEq, Vl.mk.injEq]
  simp
theorem eq_out (s t : Operand) (x y : Ou) : binD Try.prog .eql 36 s t (encO x) (encO y) = some (.bool (decide (x = y))) := by
  obtain ⟨d, ⟨e, g⟩⟩ := x
  obtain ⟨d', ⟨e', g'⟩⟩ := y
  simp only [binD, scal, eqD, ft36, scalsEq, scalEq]
  simp only [Option.map_some, if_true, Option.some.injEq, D.bool.injEq]
  rw [Bool.eq_iff_iff]
  simp
theorem eq_rf (s t : Operand) (x y : Rf) : binD Try.prog .eql 38 s t (encRf x) (encRf y) = some (.bool (decide (x = y))) := by
  obtain ⟨d, e⟩ := x
  obtain ⟨d', e'⟩ := y
  simp only [binD, scal, eqD, ft38, scalsEq, scalEq]
  simp only [Option.map_some, if_true, Option.some.injEq, D.bool.injEq]
  rw [Bool.eq_iff_iff]
  simp
theorem drop_eq_iff {α : Type} {la lb : List α} {i : Nat} (ha : i < la.length) (hb : i < lb.length) : la.drop i = lb.drop i ↔ la[i] = lb[i] ∧ la.drop (i + 1) = lb.drop (i + 1) := by
  rw [List.drop_eq_getElem_cons ha, List.drop_eq_getElem_cons hb, List.cons.injEq]
theorem values_loop (a b : Option (List Vl)) (hlen : (a.getD []).length = (b.getD []).length) (hs : (a.getD []).length < 2 ^ 62) {X : Type} (K : Ex × St → Option X) (Q : Option X → Prop) : ∀ (m i : Nat) (σ : Nat → D), i + m = (a.getD []).length →
    σ 0 = encL 2 encV a → σ 1 = encL 2 encV b → σ 5 = I i →
    (∀ σ', (a.getD []).drop i = (b.getD []).drop i → Q (K (.exit 0, ⟨σ', [], 26⟩))) → (∀ σ', (a.getD []).drop i ≠ (b.getD []).drop i → σ' 4 = .bool false → Q (K (.ret, ⟨σ', [], 26⟩))) →
    Q ((W Try.prog cfg (.loop (loopAt Try.f38 4)) ⟨σ, [], 26⟩).bind K) := by
  intro m
  induction m with
  | zero =>
    intro i σ hi s0 s1 s5 hK hR
    have h0 : ¬ (i < (a.getD []).length) := by omega
    rw [Wloop]
    conv => arg 1; arg 1; arg 1; simp [loopAt, loopIn, headId, Try.f38, s0, s1, s5, h0]
    exact hK _ (by rw [List.drop_eq_nil_of_le (by omega), List.drop_eq_nil_of_le (by omega)])
  | succ m ih =>
    intro i σ hi s0 s1 s5 hK hR
    have ha : i < (a.getD []).length := by omega
    have hb : i < (b.getD []).length := by omega
    have hlt : decide (i < (a.getD []).length) = true := dt ha
    have xa := idxD_nat .i64 ha; have xb := idxD_nat .i64 hb
    have ga : (a.getD [])[i]? = some (a.getD [])[i] := List.getElem?_eq_getElem ha
    have gb : (b.getD [])[i]? = some (b.getD [])[i] := List.getElem?_eq_getElem hb
    have hw : IntKind.i64.wrap ((i : Int) + 1) = ((i + 1 : Nat) : Int) := wr (by omega) (by omega)
    have hd := dr38_6
    simp [opsAt, opsIn, Try.f38] at hd
    have hdw := Wdraw0 hd
    clear hd
    have hq := fun s t => neq_val s t (a.getD [])[i] (b.getD [])[i]
    cases k : decide ((a.getD [])[i] = (b.getD [])[i])
    · rw [k] at hq
      have hne : (a.getD []).drop i ≠ (b.getD []).drop i := fun h => (of_decide_eq_false k) ((drop_eq_iff ha hb).1 h).1
      generalize (a.getD [])[i] = u at *
      generalize (b.getD [])[i] = v at *
      rw [Wloop]
      conv => arg 1; arg 1; arg 1; simp [loopAt, loopIn, headId, Try.f38, s0, s1, s5, hlt, xa, xb, ga, gb, hdw, hq]
      exact hR _ hne (by simp)
    · have e := of_decide_eq_true k
      rw [k] at hq
      have hK' : ∀ σ', (a.getD []).drop (i + 1) = (b.getD []).drop (i + 1) → Q (K (.exit 0, ⟨σ', [], 26⟩)) := fun σ' h => hK σ' ((drop_eq_iff ha hb).2 ⟨e, h⟩)
      have hR' : ∀ σ', (a.getD []).drop (i + 1) ≠ (b.getD []).drop (i + 1) → σ' 4 = .bool false → Q (K (.ret, ⟨σ', [], 26⟩)) := fun σ' h => hR σ' (fun h2 => h ((drop_eq_iff ha hb).1 h2).2)
      clear hK hR
      generalize (a.getD [])[i] = u at *
      generalize (b.getD [])[i] = v at *
      rw [Wloop]
      conv => arg 1; arg 1; arg 1; simp [loopAt, loopIn, headId, Try.f38, s0, s1, s5, hlt, xa, xb, ga, gb, hdw, hq, hw]
      rw [Option.bind_some, loopK_normal]
      exact ih (i + 1) _ (by omega) (by simp [s0]) (by simp [s1]) (by simp) hK' hR'
theorem values_spec (a b : Option (List Vl)) (hs : (a.getD []).length < 2 ^ 62) : fnc Try.prog cfg R 38 [encL 2 encV a, encL 2 encV b] = some (.bool (decide (a.getD [] = b.getD []))) := by
  rw [fnc_at rfl, body_eq Try.func38 rfl rfl]
  cases k : decide ((a.getD []).length = (b.getD []).length)
  · have e : decide (a.getD [] = b.getD []) = false := df (fun h => (of_decide_eq_false k) (by rw [h]))
    rw [e]
    have k' : decide (((a.getD []).length : Int) = ((b.getD []).length : Int)) = false := df (by have := of_decide_eq_false k; omega)
    simp [argsσ, Vm.results, k, k']
  · have hl := of_decide_eq_true k
    have k' : decide (((a.getD []).length : Int) = ((b.getD []).length : Int)) = true := dt (by omega)
    simp [argsσ, k, k', Option.bind_assoc]
    refine values_loop a b hl hs _ (fun o => o = some _) (a.getD []).length 0 _ (by omega) (by simp [argsσ]) (by simp [argsσ]) (by simp) ?_ ?_
    · intro σ' h
      simp only [List.drop_zero] at h
      have e : decide (a.getD [] = b.getD []) = true := dt h
      simp [Vm.results, e, h]
    · intro σ' h t4
      simp only [List.drop_zero] at h
      simp [Vm.results, t4, h]
theorem eqV_loop (a b : Option (List Vl)) (hlen : (a.getD []).length = (b.getD []).length) (hs : (a.getD []).length < 2 ^ 62) {X : Type} (K : Ex × St → Option X) (Q : Option X → Prop) : ∀ (m i : Nat) (σ : Nat → D), i + m = (a.getD []).length →
    σ 0 = encL 2 encV a → σ 1 = encL 2 encV b → σ 12 = I (a.getD []).length → σ 13 = I i →
    (∀ σ', (a.getD []).drop i = (b.getD []).drop i → Q (K (.exit 0, ⟨σ', [], 26⟩))) → (∀ σ', (a.getD []).drop i ≠ (b.getD []).drop i → σ' 4 = .bool false → Q (K (.ret, ⟨σ', [], 26⟩))) →
    Q ((W Try.prog cfg (.loop (loopAt Try.f42 4)) ⟨σ, [], 26⟩).bind K) := by
  intro m
  induction m with
  | zero =>
    intro i σ hi s0 s1 s12 s13 hK hR
    have h0 : ¬ (i < (a.getD []).length) := by omega
    rw [Wloop]
    conv => arg 1; arg 1; arg 1; simp [loopAt, loopIn, headId, Try.f42, s0, s1, s12, s13, h0]
    exact hK _ (by rw [List.drop_eq_nil_of_le (by omega), List.drop_eq_nil_of_le (by omega)])
  | succ m ih =>
    intro i σ hi s0 s1 s12 s13 hK hR
    have ha : i < (a.getD []).length := by omega
    have hb : i < (b.getD []).length := by omega
    have hlt : decide (i < (a.getD []).length) = true := dt ha
    have xa := idxD_nat .i64 ha; have xb := idxD_nat .i64 hb
    have ga : (a.getD [])[i]? = some (a.getD [])[i] := List.getElem?_eq_getElem ha
    have gb : (b.getD [])[i]? = some (b.getD [])[i] := List.getElem?_eq_getElem hb
    have hw : IntKind.i64.wrap ((i : Int) + 1) = ((i + 1 : Nat) : Int) := wr (by omega) (by omega)
    have hd := dr42_6
    simp [opsAt, opsIn, Try.f42] at hd
    have hdw := Wdraw0 hd
    clear hd
    have hq := fun s t => neq_val s t (a.getD [])[i] (b.getD [])[i]
    cases k : decide ((a.getD [])[i] = (b.getD [])[i])
    · rw [k] at hq
      have hne : (a.getD []).drop i ≠ (b.getD []).drop i := fun h => (of_decide_eq_false k) ((drop_eq_iff ha hb).1 h).1
      generalize (a.getD [])[i] = u at *
      generalize (b.getD [])[i] = v at *
      rw [Wloop]
      conv => arg 1; arg 1; arg 1; simp [loopAt, loopIn, headId, Try.f42, s0, s1, s12, s13, hlt, xa, xb, ga, gb, hdw, hq]
      exact hR _ hne (by simp)
    · have e := of_decide_eq_true k
      rw [k] at hq
      have hK' : ∀ σ', (a.getD []).drop (i + 1) = (b.getD []).drop (i + 1) → Q (K (.exit 0, ⟨σ', [], 26⟩)) := fun σ' h => hK σ' ((drop_eq_iff ha hb).2 ⟨e, h⟩)
      have hR' : ∀ σ', (a.getD []).drop (i + 1) ≠ (b.getD []).drop (i + 1) → σ' 4 = .bool false → Q (K (.ret, ⟨σ', [], 26⟩)) := fun σ' h => hR σ' (fun h2 => h ((drop_eq_iff ha hb).1 h2).2)
      clear hK hR
      generalize (a.getD [])[i] = u at *
      generalize (b.getD [])[i] = v at *
      rw [Wloop]
      conv => arg 1; arg 1; arg 1; simp [loopAt, loopIn, headId, Try.f42, s0, s1, s12, s13, hlt, xa, xb, ga, gb, hdw, hq, hw]
      rw [Option.bind_some, loopK_normal]
      exact ih (i + 1) _ (by omega) (by simp [s0]) (by simp [s1]) (by simp [s12]) (by simp) hK' hR'
theorem eqV_spec (a b : Option (List Vl)) (hs : (a.getD []).length < 2 ^ 62) : fnc Try.prog cfg R 42 [encL 2 encV a, encL 2 encV b] = some (.bool (decide (a.getD [] = b.getD []))) := by
  rw [fnc_at rfl, body_eq Try.func42 rfl rfl]
  cases k : decide ((a.getD []).length = (b.getD []).length)
  · have e : decide (a.getD [] = b.getD []) = false := df (fun h => (of_decide_eq_false k) (by rw [h]))
    rw [e]
    have k' : decide (((a.getD []).length : Int) = ((b.getD []).length : Int)) = false := df (by have := of_decide_eq_false k; omega)
    simp [argsσ, Vm.results, k, k']
  · have hl := of_decide_eq_true k
    have k' : decide (((a.getD []).length : Int) = ((b.getD []).length : Int)) = true := dt (by omega)
    simp [argsσ, k, k', Option.bind_assoc]
    refine eqV_loop a b hl hs _ (fun o => o = some _) (a.getD []).length 0 _ (by omega) (by simp [argsσ]) (by simp [argsσ]) (by simp) (by simp) ?_ ?_
    · intro σ' h
      simp only [List.drop_zero] at h
      have e : decide (a.getD [] = b.getD []) = true := dt h
      simp [Vm.results, e, h]
    · intro σ' h t4
      simp only [List.drop_zero] at h
      simp [Vm.results, t4, h]
end Go.Proofs.YtghidjgejmmcmaaW.Rg
