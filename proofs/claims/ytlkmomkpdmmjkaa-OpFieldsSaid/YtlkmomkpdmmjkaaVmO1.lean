/- Operations' fields and what may be. No conditions. -/
import Derived.Test.YtlkmomkpdmmjkaaVmPre
import Derived.Test.YtlkmomkpdmmjkaaVmC1
import Derived.Test.YtlkmomkpdmmjkaaPOpNamesx1
import Derived.Test.YtlkmomkpdmmjkaaVmLay
set_option linter.unusedVariables false
set_option linter.unusedSimpArgs false
set_option maxRecDepth 100000
namespace Go.Proofs.YtlkmomkpdmmjkaaW.Rg
open Go.Proofs.YtlkmomkpdmmjkaaW.Vm Go.Proofs.YtlkmomkpdmmjkaaW.Md
open Go Go.Proofs
@[reducible] def encInstr (x : Instr) : D := .agg [I x.op, I x.a, I x.b]
theorem wr {n : Int} (h1 : -2 ^ 63 ≤ n) (h2 : n < 2 ^ 63) : IntKind.i64.wrap n = n := IntWalk.i64_in _ (by omega)
theorem dt {p : Prop} [Decidable p] (h : p) : decide p = true := decide_eq_true h
theorem df {p : Prop} [Decidable p] (h : ¬ p) : decide p = false := decide_eq_false h
theorem fin17 {n : Int} (h0 : 0 ≤ n) (h1 : n < 17) : ∃ k : Fin 17, n = (k.val : Int) := ⟨⟨n.toNat, by omega⟩, by simp; omega⟩
theorem out17 {n : Int} (h : ¬ (0 ≤ n ∧ n < 17)) (k : Int) (h0 : 0 ≤ k) (h1 : k < 17) : decide (n = k) = false := decide_eq_false (by omega)
theorem spans_in : ∀ k : Fin 17, beqo (fnc Try.prog cfg (exec Try.prog cfg 60) 45 [I k.val]) (some (.tup [.agg [I (leastA k.val), I (mostA k.val)], .agg [I 0, I (mostB k.val)]])) = true := by decide +kernel
theorem fields_in : ∀ k : Fin 17, beqo (fnc Try.prog cfg (exec Try.prog cfg 60) 29 [I k.val]) (some (I (fields k.val))) = true := by decide +kernel
theorem fixed_in : beqo (fnc Try.prog cfg (exec Try.prog cfg 400) 23 []) (some (.bool true)) = true := by decide +kernel
theorem fixed6 : fnc Try.prog cfg R 23 [] = some (.bool true) := eval_k 400 fixed_in
theorem fields_spec (n : Int) (h : 0 ≤ n ∧ n < 17) : fnc Try.prog cfg R 29 [I n] = some (I (fields n)) := by
  obtain ⟨k, rfl⟩ := fin17 h.1 h.2
  exact eval_k 60 (fields_in k)
theorem spans_spec (n : Int) : fnc Try.prog cfg R 45 [I n] = some (.tup [.agg [I (leastA n), I (mostA n)], .agg [I 0, I (mostB n)]]) := by
  by_cases h : 0 ≤ n ∧ n < 17
  · obtain ⟨k, rfl⟩ := fin17 h.1 h.2
    exact eval_k 60 (spans_in k)
  · have h1 : leastA n = 0 := by unfold leastA; rw [if_neg (by omega)]
    have h2 : mostA n = 0 := by unfold mostA; (repeat' split) <;> omega
    have h3 : mostB n = 0 := by unfold mostB; (repeat' split) <;> omega
    rw [h1, h2, h3, fnc_at rfl, body_eq Try.func45 rfl rfl]
    simp [argsσ, Vm.results, out17 h]
theorem has_spec (a b n : Int) : fnc Try.prog cfg R 46 [.agg [I a, I b], I n] = some (.bool (decide (a ≤ n) && decide (n ≤ b))) := by
  rw [fnc_at rfl, body_eq Try.func46 rfl rfl]
  cases h : decide (a ≤ n) <;> simp [argsσ, Vm.results, h]
theorem opmay_spec (x : Instr) : fnc Try.prog cfg R 33 [encInstr x] = some (.bool (imay x)) := by
  rw [fnc_at rfl, body_eq Try.func33 rfl rfl]
  have hs := spans_spec x.op
  have h1 := has_spec (leastA x.op) (mostA x.op) x.a
  have h2 := has_spec 0 (mostB x.op) x.b
  unfold imay
  cases c1 : decide (0 ≤ x.op)
  · simp [argsσ, Vm.results, hs, c1]
  cases c2 : decide (x.op < 17)
  · simp [argsσ, Vm.results, hs, c1, c2]
  cases c3 : (decide (leastA x.op ≤ x.a) && decide (x.a ≤ mostA x.op))
  · rw [c3] at h1
    simp [argsσ, Vm.results, hs, h1, c1, c2]
    simp at c3
    intro h3 h4
    have := c3 h3
    omega
  · rw [c3] at h1
    simp [argsσ, Vm.results, hs, h1, h2, c1, c2]
    simp only [Bool.and_eq_true] at c3
    simp [c3.1, c3.2]
theorem opfields_law (x : Instr) : fnc Try.prog cfg R 10 [encInstr x] = some (.bool true) := by
  rw [fnc_at rfl, body_eq Try.func10 rfl rfl]
  have hM := opmay_spec x
  cases hm : imay x with
  | false => rw [hm] at hM; simp [argsσ, Vm.results, hM, fixed6]
  | true =>
    rw [hm] at hM
    obtain ⟨p1, p2, p3, p4, p5, p6⟩ := imay_iff.1 hm
    have hF := fields_spec x.op ⟨p1, p2⟩
    have ha := imay_a hm
    obtain ⟨op, a, b⟩ := x
    dsimp only at *
    have hqa : a.tdiv 2 = a / 2 := Int.tdiv_eq_ediv_of_nonneg ha
    have hqb : b.tdiv 2 = b / 2 := Int.tdiv_eq_ediv_of_nonneg p5
    have ma : mostA op ≤ 255 := by unfold mostA; (repeat' split) <;> omega
    have mb : mostB op ≤ 250 := by unfold mostB; (repeat' split) <;> omega
    have w1 : IntKind.i64.wrap (a / 2) = a / 2 := wr (by omega) (by omega)
    have w2 : IntKind.i64.wrap (b / 2) = b / 2 := wr (by omega) (by omega)
    have mz : imay ⟨op, a, b / 2⟩ = true := imay_iff.2 ⟨p1, p2, p3, p4, show 0 ≤ b / 2 by omega, show b / 2 ≤ mostB op by omega⟩
    have mn1 : imay ⟨op, a, -1⟩ = false := by
      cases h : imay ⟨op, a, -1⟩ with
      | false => rfl
      | true => have := (imay_iff.1 h).2.2.2.2.1; dsimp only at this; omega
    have mn2 : imay ⟨op, -1, b⟩ = false := by
      cases h : imay ⟨op, -1, b⟩ with
      | false => rfl
      | true => have := imay_a h; dsimp only at this; omega
    have hz := opmay_spec ⟨op, a, b / 2⟩
    have hy := opmay_spec ⟨op, a / 2, b⟩
    have h1 := opmay_spec ⟨op, a, -1⟩
    have h2 := opmay_spec ⟨op, -1, b⟩
    rw [mz] at hz; rw [mn1] at h1; rw [mn2] at h2
    have na : decide (a < 0) = false := df (by omega)
    have nb : decide (b < 0) = false := df (by omega)
    have f1 : fields op < 1 → a = 0 := by
      intro hf
      unfold fields at hf
      unfold mostA at p4
      (repeat' split at hf) <;> (repeat' split at p4) <;> omega
    have f2 : fields op < 2 → b = 0 := by
      intro hf
      unfold fields at hf
      unfold mostB at p6
      (repeat' split at hf) <;> (repeat' split at p6) <;> omega
    have f3 : imay ⟨op, a / 2, b⟩ = false → op = 16 ∧ a / 2 < 16 := by
      intro h
      apply Classical.byContradiction
      intro h'
      have : imay ⟨op, a / 2, b⟩ = true := by
        refine imay_iff.2 ⟨p1, p2, ?_, show a / 2 ≤ mostA op by omega, p5, p6⟩
        show leastA op ≤ a / 2
        unfold leastA
        split <;> omega
      rw [this] at h; cases h
    have k1 : (decide (fields op < 1) = false) ∨ (decide (fields op < 1) = true ∧ decide (a = 0) = true) := by
      by_cases h : fields op < 1
      · exact .inr ⟨dt h, dt (f1 h)⟩
      · exact .inl (df h)
    have k2 : (decide (fields op < 2) = false) ∨ (decide (fields op < 2) = true ∧ decide (b = 0) = true) := by
      by_cases h : fields op < 2
      · exact .inr ⟨dt h, dt (f2 h)⟩
      · exact .inl (df h)
    have k3 : imay ⟨op, a / 2, b⟩ = true ∨ (imay ⟨op, a / 2, b⟩ = false ∧ decide (op = 16) = true ∧ decide (a / 2 < 16) = true) := by
      cases h : imay ⟨op, a / 2, b⟩ with
      | true => exact .inl rfl
      | false => exact .inr ⟨rfl, dt (f3 h).1, dt (f3 h).2⟩
    generalize imay ⟨op, a / 2, b⟩ = my at *
    generalize fields op = n at *
    have hd := dr10_6
    simp [opsAt, opsIn, Try.f10] at hd
    have hdw := Wdraw hd
    clear hd
    rcases k1 with k1 | ⟨k1, k1'⟩ <;> rcases k2 with k2 | ⟨k2, k2'⟩ <;> rcases k3 with rfl | ⟨rfl, k3, k3'⟩
    · simp [argsσ, Vm.results, hM, fixed6, hF, hz, hy, h1, h2, bin_quo, hqa, hqb, w1, w2, na, nb, hdw, logL, loud, isE, drawChk, k1, k2]
    · simp [argsσ, Vm.results, hM, fixed6, hF, hz, hy, h1, h2, bin_quo, hqa, hqb, w1, w2, na, nb, hdw, logL, loud, isE, drawChk, k3, k3', k1, k2]
    · simp [argsσ, Vm.results, hM, fixed6, hF, hz, hy, h1, h2, bin_quo, hqa, hqb, w1, w2, na, nb, hdw, logL, loud, isE, drawChk, k1, k2, k2']
    · simp [argsσ, Vm.results, hM, fixed6, hF, hz, hy, h1, h2, bin_quo, hqa, hqb, w1, w2, na, nb, hdw, logL, loud, isE, drawChk, k3, k3', k1, k2, k2']
    · simp [argsσ, Vm.results, hM, fixed6, hF, hz, hy, h1, h2, bin_quo, hqa, hqb, w1, w2, na, nb, hdw, logL, loud, isE, drawChk, k1, k1', k2]
    · simp [argsσ, Vm.results, hM, fixed6, hF, hz, hy, h1, h2, bin_quo, hqa, hqb, w1, w2, na, nb, hdw, logL, loud, isE, drawChk, k3, k3', k1, k1', k2]
    · simp [argsσ, Vm.results, hM, fixed6, hF, hz, hy, h1, h2, bin_quo, hqa, hqb, w1, w2, na, nb, hdw, logL, loud, isE, drawChk, k1, k1', k2, k2']
    · simp [argsσ, Vm.results, hM, fixed6, hF, hz, hy, h1, h2, bin_quo, hqa, hqb, w1, w2, na, nb, hdw, logL, loud, isE, drawChk, k3, k3', k1, k1', k2, k2']
theorem dec_int {k : Nat} {ds : List D} (h : HasT Try.prog (k + 1) 3 ds) : ∃ n, ds = [I n] ∧ (Lit.int .i64 n).wf = true := by
  unfold HasT at h; rw [un3] at h; exact h
theorem dec_instr {k : Nat} {ds : List D} (h : HasT Try.prog (k + 2) 33 ds) : ∃ x : Instr, toD Try.prog 33 ds = encInstr x := by
  unfold HasT at h; rw [Try.underlying33] at h
  obtain ⟨a, _, rfl, h1, b, _, rfl, h2, c, _, rfl, h3, rfl⟩ := h
  obtain ⟨n, rfl, _⟩ := dec_int h1
  obtain ⟨m, rfl, _⟩ := dec_int h2
  obtain ⟨l, rfl, _⟩ := dec_int h3
  exact ⟨⟨n, m, l⟩, by unfold toD; rw [Try.underlying33]; rfl⟩
/-- what is told of Find, at two names -/
def findG : List D → Option D := fun a => match a with | [.str s] => if s.data.toList == [109, 117, 108] then some (.tup [.int .i64 5, .bool true]) else if s.data.toList == [77, 117, 108] then some (.tup [.int .i64 0, .bool false]) else none | _ => none
theorem ext_find : cfg.ext 24 = some findG := rfl
theorem find1 : Ytlkmomkpdmmjkaa.POpNames.op_Find.f ⟨#[109, 117, 108]⟩ = some (5, true) := by decide +kernel
theorem find2 : Ytlkmomkpdmmjkaa.POpNames.op_Find.f ⟨#[77, 117, 108]⟩ = some (0, false) := by decide +kernel
theorem ext_ok : ExtOk Try.prog cfg := ⟨fun f g hg => by
  by_cases hf : f = 24
  · subst hf
    obtain rfl : findG = g := Option.some.inj (ext_find.symm.trans hg)
    refine ⟨⟨Try.f24, Try.func24, rfl, rfl⟩, ?_⟩
    intro args r hr w L vs hL hA
    unfold findG at hr
    split at hr
    · rename_i s
      obtain ⟨vl⟩ := vs
      cases hA with
      | cons h t =>
        cases h
        cases t
        obtain ⟨⟨l⟩⟩ := s
        split at hr
        · rename_i h1
          obtain rfl := eq_of_beq h1
          cases hr
          exact (Ytlkmomkpdmmjkaa.POpNames.op_Find.calls _ _ _ w find1).mono fun e w' ⟨he, hb⟩ => ⟨_, he, hb, rfl, .tup (.cons (.int _ _) (.cons (.bool _) .nil))⟩
        · split at hr
          · rename_i h1
            obtain rfl := eq_of_beq h1
            cases hr
            exact (Ytlkmomkpdmmjkaa.POpNames.op_Find.calls _ _ _ w find2).mono fun e w' ⟨he, hb⟩ => ⟨_, he, hb, rfl, .tup (.cons (.int _ _) (.cons (.bool _) .nil))⟩
          · cases hr
    · cases hr
  · have : cfg.ext f = none := by show (if f = 24 then some findG else none) = none; rw [if_neg hf]
    rw [this] at hg; cases hg⟩
end Go.Proofs.YtlkmomkpdmmjkaaW.Rg
