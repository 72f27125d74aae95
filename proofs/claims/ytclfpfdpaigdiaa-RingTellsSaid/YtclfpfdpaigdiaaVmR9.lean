import Derived.Test.YtclfpfdpaigdiaaVmR7
set_option linter.unusedVariables false
set_option linter.unusedSimpArgs false
namespace Go.Proofs.YtclfpfdpaigdiaaW.Rg
open Go.Proofs.YtclfpfdpaigdiaaW.Vm
open Go Go.Proofs
theorem neq_ref (s t : Operand) (x y : Ref) : binD Try.prog .neq 33 s t (encRef x) (encRef y) = some (.bool (!decide (x = y))) := by
  obtain ⟨a, b⟩ := x
  obtain ⟨c, d⟩ := y
  simp [binD, scal, eqD, ft33, scalsEq, scalEq]
  by_cases h1 : a = c <;> by_cases h2 : b = d <;> simp [h1, h2]
theorem refs_loop (a b : Option (List Ref)) (la lb : List Ref) (ha : a.getD [] = la) (hb : b.getD [] = lb) (hlen : la.length = lb.length) (hs : la.length < 2 ^ 62) {X : Type} (K : Ex × St → Option X) (x : X) : ∀ (m i : Nat) (σ : Nat → D), i + m = la.length →
    (∀ j, j < i → la[j]? = lb[j]?) → σ 0 = encS a → σ 1 = encS b → σ 5 = I i →
    (∀ σ', la = lb → K (.exit 0, ⟨σ', [], 26⟩) = some x) → (∀ σ', la ≠ lb → σ' 4 = .bool false → K (.ret, ⟨σ', [], 26⟩) = some x) →
    (W Try.prog cfg (.loop (loopAt Try.f22 4)) ⟨σ, [], 26⟩).bind K = some x
  | 0, i, σ, hm, he, s0, s1, s5, hK, hR => by
    obtain rfl : i = la.length := by omega
    have e : la = lb := by
      apply List.ext_getElem?
      intro j
      by_cases hj : j < la.length
      · exact he j hj
      · rw [List.getElem?_eq_none (by omega), List.getElem?_eq_none (by omega)]
    rw [Wloop]
    conv => lhs; arg 1; arg 1; simp [loopAt, loopIn, headId, Try.f22, s0, s5, ha]
    exact hK _ e
  | m + 1, i, σ, hm, he, s0, s1, s5, hK, hR => by
    have hlt : i < la.length := by omega
    have hlb : i < lb.length := by omega
    have hxa := ix_encS a i (by rw [ha]; omega)
    have hxb := ix_encS b i (by rw [hb]; omega)
    rw [ha, show ((i : Int).toNat) = i by simp] at hxa
    rw [hb, show ((i : Int).toNat) = i by simp] at hxb
    have ga : la[i]? = some la[i] := List.getElem?_eq_getElem hlt
    have gb : lb[i]? = some lb[i] := List.getElem?_eq_getElem hlb
    have hwr : IntKind.i64.wrap ((i : Int) + 1) = i + 1 := IntWalk.i64_in _ (by omega)
    have hd := dr22_6
    simp [opsAt, opsIn, Try.f22] at hd
    have hdw := Wdraw0 hd
    rw [Wloop]
    by_cases hxy : la[i] = lb[i]
    · conv => lhs; arg 1; arg 1; simp [loopAt, loopIn, headId, Try.f22, s0, s1, s5, ha, hb, hlt, hdw, hxa, hxb, ga, gb, hwr, neq_ref, hxy]
      rw [Option.bind_some, loopK_normal]
      refine refs_loop a b la lb ha hb hlen hs K x m (i + 1) _ (by omega) ?_ (by simp [s0]) (by simp [s1]) (by simp) hK hR
      intro j hj
      by_cases e : j = i
      · subst e; rw [ga, gb, hxy]
      · exact he j (by omega)
    · conv => lhs; arg 1; arg 1; simp [loopAt, loopIn, headId, Try.f22, s0, s1, s5, ha, hb, hlt, hdw, hxa, hxb, ga, gb, hwr, neq_ref, hxy]
      rw [Option.bind_some, loopK_ret]
      exact hR _ (fun e => hxy (by subst e; rfl)) (by simp)
theorem refs_spec (a b : Option (List Ref)) (hs : (a.getD []).length < 2 ^ 62) : fnc Try.prog cfg R 22 [encS a, encS b] = some (.bool (decide (a.getD [] = b.getD []))) := by
  obtain ⟨la, ha⟩ : ∃ l, a.getD [] = l := ⟨_, rfl⟩
  obtain ⟨lb, hb⟩ : ∃ l, b.getD [] = l := ⟨_, rfl⟩
  rw [ha] at hs
  rw [fnc_eq cfg_ext, body_eq Try.func22 rfl rfl, ha, hb]
  by_cases hl : (la.length : Int) = lb.length
  · have hd : decide ((la.length : Int) = lb.length) = true := by simp; omega
    simp [argsσ, ha, hb, hd, Option.bind_assoc]
    refine refs_loop a b la lb ha hb (by omega) hs _ _ la.length 0 _ (by omega) (by simp) (by simp [argsσ]) (by simp [argsσ]) (by simp) ?_ ?_
    · intro σ' e; simp [Vm.results, e]
    · intro σ' e s4; simp [Vm.results, e, s4]
  · have hd : decide ((la.length : Int) = lb.length) = false := by simp; omega
    have hne : decide (la = lb) = false := by simp; rintro rfl; exact hl rfl
    simp [argsσ, ha, hb, hd, Vm.results, hne]
end Go.Proofs.YtclfpfdpaigdiaaW.Rg
