/- Equal lists; the numbers of an iterator, sorted. No conditions. -/
import Derived.Test.YtopgmnjijioheaaVmPE
import Derived.Test.YtopgmnjijioheaaVmPM
import Derived.Test.YtopgmnjijioheaaVmPX
set_option linter.unusedVariables false
set_option linter.unusedSimpArgs false
namespace Go.Proofs.YtopgmnjijioheaaW.Rg
open Go.Proofs.YtopgmnjijioheaaW.Vm Go.Proofs.YtopgmnjijioheaaW.Md
open Go Go.Proofs
theorem neq_rf (s t : Operand) (x y : Rf) : binD Try.prog .neq 27 s t (encRf x) (encRf y) = some (.bool (!decide (x = y))) := by
  obtain ⟨d, e⟩ := x
  obtain ⟨d', e'⟩ := y
  simp only [binD, scal, eqD, ft27, scalsEq, scalEq]
  simp only [Option.map_some, if_true, Option.some.injEq, D.bool.injEq]
  rw [Bool.eq_iff_iff]
  simp
@[simp] theorem ixL_rf (b : Option (List Rf)) (i : D) : indexAddrD Try.prog 52 (encL 2 encRf b) i = (idxD (b.getD []).length i).map fun i => .fptr 2 ((b.getD []).map encRf) i 0 := ixL un52 sz27 b i
theorem rints_loop (a b : Option (List Int)) (hlen : (a.getD []).length = (b.getD []).length) (hs : (a.getD []).length < 2 ^ 62) {X : Type} (K : Ex × St → Option X) (Q : Option X → Prop) : ∀ (m i : Nat) (σ : Nat → D), i + m = (a.getD []).length →
    σ 0 = encL 1 I a → σ 1 = encL 1 I b → σ 5 = I i →
    (∀ σ', (a.getD []).drop i = (b.getD []).drop i → Q (K (.exit 0, ⟨σ', [], 26⟩))) → (∀ σ', (a.getD []).drop i ≠ (b.getD []).drop i → σ' 4 = .bool false → Q (K (.ret, ⟨σ', [], 26⟩))) →
    Q ((W Try.prog cfg (.loop (loopAt Try.f38 4)) ⟨σ, [], 26⟩).bind K) := by
  intro m
  induction m with
  | zero =>
    intro i σ hi s0 s1 s5 hK hR
    have h0 : ¬ (i < (a.getD []).length) := by omega
    rw [Wloop]
    conv => arg 1; arg 1; arg 1; simp [loopAt, loopIn, headId, Try.f38, s0, s1, s5, h0]
    exact hK _ (by rw [List.drop_eq_nil_of_le (by omega), List.drop_eq_nil_of_le (by omega)])
  | succ m ih =>
    intro i σ hi s0 s1 s5 hK hR
    have ha : i < (a.getD []).length := by omega
    have hb : i < (b.getD []).length := by omega
    have hlt : decide (i < (a.getD []).length) = true := dt ha
    have xa := idxD_nat .i64 ha; have xb := idxD_nat .i64 hb
    have ga : (a.getD [])[i]? = some (a.getD [])[i] := List.getElem?_eq_getElem ha
    have gb : (b.getD [])[i]? = some (b.getD [])[i] := List.getElem?_eq_getElem hb
    have hw : IntKind.i64.wrap ((i : Int) + 1) = ((i + 1 : Nat) : Int) := wr (by omega) (by omega)
    have hd := dr38_6
    simp [opsAt, opsIn, Try.f38] at hd
    have hdw := Wdraw0 hd
    clear hd
    cases k : decide ((a.getD [])[i] = (b.getD [])[i])
    · skip
      have hne : (a.getD []).drop i ≠ (b.getD []).drop i := fun h => (of_decide_eq_false k) ((drop_eq_iff ha hb).1 h).1
      generalize (a.getD [])[i] = u at *
      generalize (b.getD [])[i] = v at *
      rw [Wloop]
      conv => arg 1; arg 1; arg 1; simp [loopAt, loopIn, headId, Try.f38, s0, s1, s5, hlt, xa, xb, ga, gb, hdw, k]
      exact hR _ hne (by simp)
    · have e := of_decide_eq_true k
      have hK' : ∀ σ', (a.getD []).drop (i + 1) = (b.getD []).drop (i + 1) → Q (K (.exit 0, ⟨σ', [], 26⟩)) := fun σ' h => hK σ' ((drop_eq_iff ha hb).2 ⟨e, h⟩)
      have hR' : ∀ σ', (a.getD []).drop (i + 1) ≠ (b.getD []).drop (i + 1) → σ' 4 = .bool false → Q (K (.ret, ⟨σ', [], 26⟩)) := fun σ' h => hR σ' (fun h2 => h ((drop_eq_iff ha hb).1 h2).2)
      clear hK hR
      generalize (a.getD [])[i] = u at *
      generalize (b.getD [])[i] = v at *
      rw [Wloop]
      conv => arg 1; arg 1; arg 1; simp [loopAt, loopIn, headId, Try.f38, s0, s1, s5, hlt, xa, xb, ga, gb, hdw, k, hw]
      rw [Option.bind_some, loopK_normal]
      exact ih (i + 1) _ (by omega) (by simp [s0]) (by simp [s1]) (by simp) hK' hR'
theorem rints_spec (a b : Option (List Int)) (hs : (a.getD []).length < 2 ^ 62) : fnc Try.prog cfg R 38 [encL 1 I a, encL 1 I b] = some (.bool (decide (a.getD [] = b.getD []))) := by
  rw [fnc_at rfl, body_eq Try.func38 rfl rfl]
  cases k : decide ((a.getD []).length = (b.getD []).length)
  · have e : decide (a.getD [] = b.getD []) = false := df (fun h => (of_decide_eq_false k) (by rw [h]))
    rw [e]
    have k' : decide (((a.getD []).length : Int) = ((b.getD []).length : Int)) = false := df (by have := of_decide_eq_false k; omega)
    simp [argsσ, Vm.results, k, k']
  · have hl := of_decide_eq_true k
    have k' : decide (((a.getD []).length : Int) = ((b.getD []).length : Int)) = true := dt (by omega)
    simp [argsσ, k, k', Option.bind_assoc]
    refine rints_loop a b hl hs _ (fun o => o = some _) (a.getD []).length 0 _ (by omega) (by simp [argsσ]) (by simp [argsσ]) (by simp) ?_ ?_
    · intro σ' h
      simp only [List.drop_zero] at h
      have e : decide (a.getD [] = b.getD []) = true := dt h
      simp [Vm.results, e, h]
    · intro σ' h t4
      simp only [List.drop_zero] at h
      simp [Vm.results, t4, h]
theorem refs_loop (a b : Option (List Rf)) (hlen : (a.getD []).length = (b.getD []).length) (hs : (a.getD []).length < 2 ^ 62) {X : Type} (K : Ex × St → Option X) (Q : Option X → Prop) : ∀ (m i : Nat) (σ : Nat → D), i + m = (a.getD []).length →
    σ 0 = encL 2 encRf a → σ 1 = encL 2 encRf b → σ 5 = I i →
    (∀ σ', (a.getD []).drop i = (b.getD []).drop i → Q (K (.exit 0, ⟨σ', [], 26⟩))) → (∀ σ', (a.getD []).drop i ≠ (b.getD []).drop i → σ' 4 = .bool false → Q (K (.ret, ⟨σ', [], 26⟩))) →
    Q ((W Try.prog cfg (.loop (loopAt Try.f24 4)) ⟨σ, [], 26⟩).bind K) := by
  intro m
  induction m with
  | zero =>
    intro i σ hi s0 s1 s5 hK hR
    have h0 : ¬ (i < (a.getD []).length) := by omega
    rw [Wloop]
    conv => arg 1; arg 1; arg 1; simp [loopAt, loopIn, headId, Try.f24, s0, s1, s5, h0]
    exact hK _ (by rw [List.drop_eq_nil_of_le (by omega), List.drop_eq_nil_of_le (by omega)])
  | succ m ih =>
    intro i σ hi s0 s1 s5 hK hR
    have ha : i < (a.getD []).length := by omega
    have hb : i < (b.getD []).length := by omega
    have hlt : decide (i < (a.getD []).length) = true := dt ha
    have xa := idxD_nat .i64 ha; have xb := idxD_nat .i64 hb
    have ga : (a.getD [])[i]? = some (a.getD [])[i] := List.getElem?_eq_getElem ha
    have gb : (b.getD [])[i]? = some (b.getD [])[i] := List.getElem?_eq_getElem hb
    have hw : IntKind.i64.wrap ((i : Int) + 1) = ((i + 1 : Nat) : Int) := wr (by omega) (by omega)
    have hd := dr24_6
    simp [opsAt, opsIn, Try.f24] at hd
    have hdw := Wdraw0 hd
    clear hd
    have hq := fun s t => neq_rf s t (a.getD [])[i] (b.getD [])[i]
    cases k : decide ((a.getD [])[i] = (b.getD [])[i])
    · rw [k] at hq
      have hne : (a.getD []).drop i ≠ (b.getD []).drop i := fun h => (of_decide_eq_false k) ((drop_eq_iff ha hb).1 h).1
      generalize (a.getD [])[i] = u at *
      generalize (b.getD [])[i] = v at *
      rw [Wloop]
      conv => arg 1; arg 1; arg 1; simp [loopAt, loopIn, headId, Try.f24, s0, s1, s5, hlt, xa, xb, ga, gb, hdw, hq]
      exact hR _ hne (by simp)
    · have e := of_decide_eq_true k
      rw [k] at hq
      have hK' : ∀ σ', (a.getD []).drop (i + 1) = (b.getD []).drop (i + 1) → Q (K (.exit 0, ⟨σ', [], 26⟩)) := fun σ' h => hK σ' ((drop_eq_iff ha hb).2 ⟨e, h⟩)
      have hR' : ∀ σ', (a.getD []).drop (i + 1) ≠ (b.getD []).drop (i + 1) → σ' 4 = .bool false → Q (K (.ret, ⟨σ', [], 26⟩)) := fun σ' h => hR σ' (fun h2 => h ((drop_eq_iff ha hb).1 h2).2)
      clear hK hR
      generalize (a.getD [])[i] = u at *
      generalize (b.getD [])[i] = v at *
      rw [Wloop]
      conv => arg 1; arg 1; arg 1; simp [loopAt, loopIn, headId, Try.f24, s0, s1, s5, hlt, xa, xb, ga, gb, hdw, hq, hw]
      rw [Option.bind_some, loopK_normal]
      exact ih (i + 1) _ (by omega) (by simp [s0]) (by simp [s1]) (by simp) hK' hR'
theorem refs_spec (a b : Option (List Rf)) (hs : (a.getD []).length < 2 ^ 62) : fnc Try.prog cfg R 24 [encL 2 encRf a, encL 2 encRf b] = some (.bool (decide (a.getD [] = b.getD []))) := by
  rw [fnc_at rfl, body_eq Try.func24 rfl rfl]
  cases k : decide ((a.getD []).length = (b.getD []).length)
  · have e : decide (a.getD [] = b.getD []) = false := df (fun h => (of_decide_eq_false k) (by rw [h]))
    rw [e]
    have k' : decide (((a.getD []).length : Int) = ((b.getD []).length : Int)) = false := df (by have := of_decide_eq_false k; omega)
    simp [argsσ, Vm.results, k, k']
  · have hl := of_decide_eq_true k
    have k' : decide (((a.getD []).length : Int) = ((b.getD []).length : Int)) = true := dt (by omega)
    simp [argsσ, k, k', Option.bind_assoc]
    refine refs_loop a b hl hs _ (fun o => o = some _) (a.getD []).length 0 _ (by omega) (by simp [argsσ]) (by simp [argsσ]) (by simp) ?_ ?_
    · intro σ' h
      simp only [List.drop_zero] at h
      have e : decide (a.getD [] = b.getD []) = true := dt h
      simp [Vm.results, e, h]
    · intro σ' h t4
      simp only [List.drop_zero] at h
      simp [Vm.results, t4, h]
theorem eqI_loop (a b : Option (List Int)) (hlen : (a.getD []).length = (b.getD []).length) (hs : (a.getD []).length < 2 ^ 62) {X : Type} (K : Ex × St → Option X) (Q : Option X → Prop) : ∀ (m i : Nat) (σ : Nat → D), i + m = (a.getD []).length →
    σ 0 = encL 1 I a → σ 1 = encL 1 I b → σ 12 = I (a.getD []).length → σ 13 = I i →
    (∀ σ', (a.getD []).drop i = (b.getD []).drop i → Q (K (.exit 0, ⟨σ', [], 26⟩))) → (∀ σ', (a.getD []).drop i ≠ (b.getD []).drop i → σ' 4 = .bool false → Q (K (.ret, ⟨σ', [], 26⟩))) →
    Q ((W Try.prog cfg (.loop (loopAt Try.f40 4)) ⟨σ, [], 26⟩).bind K) := by
  intro m
  induction m with
  | zero =>
    intro i σ hi s0 s1 s12 s13 hK hR
    have h0 : ¬ (i < (a.getD []).length) := by omega
    rw [Wloop]
    conv => arg 1; arg 1; arg 1; simp [loopAt, loopIn, headId, Try.f40, s0, s1, s12, s13, h0]
    exact hK _ (by rw [List.drop_eq_nil_of_le (by omega), List.drop_eq_nil_of_le (by omega)])
  | succ m ih =>
    intro i σ hi s0 s1 s12 s13 hK hR
    have ha : i < (a.getD []).length := by omega
    have hb : i < (b.getD []).length := by omega
    have hlt : decide (i < (a.getD []).length) = true := dt ha
    have xa := idxD_nat .i64 ha; have xb := idxD_nat .i64 hb
    have ga : (a.getD [])[i]? = some (a.getD [])[i] := List.getElem?_eq_getElem ha
    have gb : (b.getD [])[i]? = some (b.getD [])[i] := List.getElem?_eq_getElem hb
    have hw : IntKind.i64.wrap ((i : Int) + 1) = ((i + 1 : Nat) : Int) := wr (by omega) (by omega)
    have hd := dr40_6
    simp [opsAt, opsIn, Try.f40] at hd
    have hdw := Wdraw0 hd
    clear hd
    cases k : decide ((a.getD [])[i] = (b.getD [])[i])
    · skip
      have hne : (a.getD []).drop i ≠ (b.getD []).drop i := fun h => (of_decide_eq_false k) ((drop_eq_iff ha hb).1 h).1
      generalize (a.getD [])[i] = u at *
      generalize (b.getD [])[i] = v at *
      rw [Wloop]
      conv => arg 1; arg 1; arg 1; simp [loopAt, loopIn, headId, Try.f40, s0, s1, s12, s13, hlt, xa, xb, ga, gb, hdw, k]
      exact hR _ hne (by simp)
    · have e := of_decide_eq_true k
      have hK' : ∀ σ', (a.getD []).drop (i + 1) = (b.getD []).drop (i + 1) → Q (K (.exit 0, ⟨σ', [], 26⟩)) := fun σ' h => hK σ' ((drop_eq_iff ha hb).2 ⟨e, h⟩)
      have hR' : ∀ σ', (a.getD []).drop (i + 1) ≠ (b.getD []).drop (i + 1) → σ' 4 = .bool false → Q (K (.ret, ⟨σ', [], 26⟩)) := fun σ' h => hR σ' (fun h2 => h ((drop_eq_iff ha hb).1 h2).2)
      clear hK hR
      generalize (a.getD [])[i] = u at *
      generalize (b.getD [])[i] = v at *
      rw [Wloop]
      conv => arg 1; arg 1; arg 1; simp [loopAt, loopIn, headId, Try.f40, s0, s1, s12, s13, hlt, xa, xb, ga, gb, hdw, k, hw]
      rw [Option.bind_some, loopK_normal]
      exact ih (i + 1) _ (by omega) (by simp [s0]) (by simp [s1]) (by simp [s12]) (by simp) hK' hR'
theorem eqI_spec (a b : Option (List Int)) (hs : (a.getD []).length < 2 ^ 62) : fnc Try.prog cfg R 40 [encL 1 I a, encL 1 I b] = some (.bool (decide (a.getD [] = b.getD []))) := by
  rw [fnc_at rfl, body_eq Try.func40 rfl rfl]
  cases k : decide ((a.getD []).length = (b.getD []).length)
  · have e : decide (a.getD [] = b.getD []) = false := df (fun h => (of_decide_eq_false k) (by rw [h]))
    rw [e]
    have k' : decide (((a.getD []).length : Int) = ((b.getD []).length : Int)) = false := df (by have := of_decide_eq_false k; omega)
    simp [argsσ, Vm.results, k, k']
  · have hl := of_decide_eq_true k
    have k' : decide (((a.getD []).length : Int) = ((b.getD []).length : Int)) = true := dt (by omega)
    simp [argsσ, k, k', Option.bind_assoc]
    refine eqI_loop a b hl hs _ (fun o => o = some _) (a.getD []).length 0 _ (by omega) (by simp [argsσ]) (by simp [argsσ]) (by simp) (by simp) ?_ ?_
    · intro σ' h
      simp only [List.drop_zero] at h
      have e : decide (a.getD [] = b.getD []) = true := dt h
      simp [Vm.results, e, h]
    · intro σ' h t4
      simp only [List.drop_zero] at h
      simp [Vm.results, t4, h]
theorem in_spec (n a b : Int) : fnc Try.prog cfg R 37 [I n, I a, I b] = some (.bool (decide (a ≤ n) && decide (n ≤ b))) := by
  rw [fnc_at rfl, body_eq Try.func37 rfl rfl]
  cases k1 : decide (a ≤ n)
  · simp [argsσ, Vm.results, k1]
  · simp [argsσ, Vm.results, k1]
/-- the function value of an iterator -/
def vclo (b : Option (List Int)) : D := .clo (.func 51) [] [.fptr 1 [encL 1 I b] 0 0]
theorem fnc_ext {run : Run} {f : FuncId} {g : List D → Option D} (h : cfg.ext f = some g) (args : List D) : fnc Try.prog cfg run f args = g args := by unfold fnc; rw [h]
theorem vals_spec (b : Option (List Int)) : fnc Try.prog cfg R 42 [encL 1 I b] = some (vclo b) := by
  rw [fnc_ext rfl]
  cases b <;> rfl
theorem ints_map : ∀ l : List Int, intsOfD (l.map I) = some l
  | [] => rfl
  | x :: l => by simp [intsOfD, ints_map l]
theorem sort_spec (b : Option (List Int)) (hl : (b.getD []).length ≤ 2 ^ 40) : ∃ o : Option (List Int), fnc Try.prog cfg R 41 [vclo b] = some (encL 1 I o) ∧ o.getD [] = isortZ (b.getD []) := by
  rw [fnc_ext rfl]
  cases b with
  | none => exact ⟨none, rfl, rfl⟩
  | some l =>
    by_cases h : l = []
    · subst h; exact ⟨none, rfl, rfl⟩
    · refine ⟨some (isortZ l), ?_, rfl⟩
      have hl' : (l.map I).length ≤ 2 ^ 40 := by simpa using hl
      show sortedG _ [.clo (.func 51) [] [.fptr 1 [.sl 1 (l.map I) false] 0 0]] = _
      unfold sortedG
      simp only
      rw [if_pos ⟨trivial, hl'⟩, ints_map, Option.map_some, if_neg h]
      rfl
end Go.Proofs.YtopgmnjijioheaaW.Rg
