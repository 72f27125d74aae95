/- SeqSeeds. No conditions. -/
import Derived.Test.YtlpadffinfijgaaVmQL1
import Derived.Test.YtlpadffinfijgaaVmRD
import Derived.KernelRfl
set_option linter.unusedVariables false
set_option linter.unusedSimpArgs false
set_option maxRecDepth 10000
namespace Go.Proofs.YtlpadffinfijgaaW.Rg
open Go.Proofs.YtlpadffinfijgaaW.Vm Go.Proofs.YtlpadffinfijgaaW.Md
open Go Go.Proofs
@[reducible] def oIn (p : Option (List Fu)) (a : Option (List Vl)) (s : Int) : Ob := ⟨0, 3, [.agg [encProg p, encL 2 encV a, I s]], 0⟩
section
variable (p : Option (List Fu)) (a : Option (List Vl)) (s : Int) {H : List Ob} (h0 : H[0]? = some (oIn p a s))
include h0
theorem sd_in (i : Nat) (g : Fu) (hg : (p.getD [])[i]? = some g) (hgl : g.c.length < 2 ^ 62) {X : Type} (K : Ex × St → Option X) (Q : Option X → Prop) : ∀ (rest : List Instr) (k : Nat) (σ : Nat → D), g.c.drop k = rest →
    σ 3 = .ptr 0 0 0 0 → σ 10 = I i → σ 11 = I k →
    (∀ x ∈ rest, x.op = 12 → ∀ σ', σ' 6 = .bool true → Q (K (.ret, ⟨σ', H, 122⟩))) →
    ((∀ x ∈ rest, x.op ≠ 12) → ∀ σ', σ' 1 = σ 1 → σ' 2 = σ 2 → σ' 3 = .ptr 0 0 0 0 → σ' 10 = I i → Q (K (.exit 2, ⟨σ', H, 122⟩))) →
    Q ((W Try.prog cfgE (.loop (loopAt Try.f7 10)) ⟨σ, H, 122⟩).bind K) := by
  intro rest
  have hil : i < (p.getD []).length := (List.getElem?_eq_some_iff.1 hg).1
  have hx := idxD_nat .i64 hil
  induction rest with
  | nil =>
    intro k σ hd s3 s10 s11 hf he
    have hi : ¬ (k < g.c.length) := by have := congrArg List.length hd; simp at this; omega
    have hi2 : decide (k < (g.code.getD []).length) = false := df hi
    rw [Wloop]
    conv => arg 1; arg 1; arg 1; simp [loopAt, loopIn, headId, Try.f7, s3, s10, s11, h0, hx, hg, hi2, -getElem?_pos]
    exact he (by simp) _ (by simp) (by simp) (by simp [s3]) (by simp [s10])
  | cons y rest ih =>
    intro k σ hd s3 s10 s11 hf he
    obtain ⟨hg1, hd1, hi⟩ := drop_get hd
    have hg1 : (g.code.getD [])[k]? = some y := hg1
    have hi : k < (g.code.getD []).length := hi
    have hlt : decide (k < (g.code.getD []).length) = true := dt hi
    have hx2 := idxD_nat .i64 hi
    have hw : IntKind.i64.wrap ((k : Int) + 1) = ((k + 1 : Nat) : Int) := wr (by have : (g.code.getD []).length < 2 ^ 62 := hgl; omega) (by have : (g.code.getD []).length < 2 ^ 62 := hgl; omega)
    cases c1 : decide (y.op = 12)
    · rw [Wloop]
      conv => arg 1; arg 1; arg 1; simp [loopAt, loopIn, headId, Try.f7, s3, s10, s11, h0, hx, hg, hlt, hx2, hg1, c1, hw, -getElem?_pos]
      rw [Option.bind_some, loopK_normal]
      refine ih (k + 1) _ hd1 (by simp [s3]) (by simp [s10]) (by simp) (fun x hx => hf x (by simp [hx])) (fun hn σ' e1 e2 e3 e4 => he (fun x hx => ?_) σ' (by rw [e1]; simp) (by rw [e2]; simp) e3 e4)
      rcases List.mem_cons.1 hx with rfl | hx
      · exact of_decide_eq_false c1
      · exact hn x hx
    · rw [Wloop]
      conv => arg 1; arg 1; arg 1; simp [loopAt, loopIn, headId, Try.f7, s3, s10, s11, h0, hx, hg, hlt, hx2, hg1, c1, hw, -getElem?_pos]
      exact hf y (by simp) (of_decide_eq_true c1) _ (by simp)
theorem sd_out (hl : (p.getD []).length < 2 ^ 62) (hcl : ∀ g ∈ p.getD [], g.c.length < 2 ^ 62) {X : Type} (K : Ex × St → Option X) (Q : Option X → Prop) : ∀ (rest : List Fu) (i : Nat) (σ : Nat → D), (p.getD []).drop i = rest →
    σ 3 = .ptr 0 0 0 0 → σ 10 = I i →
    (∀ σ', σ' 6 = .bool true → Q (K (.ret, ⟨σ', H, 122⟩))) →
    ((∀ g ∈ rest, ∀ x ∈ g.c, x.op ≠ 12) → ∀ σ', σ' 1 = σ 1 → σ' 2 = σ 2 → σ' 3 = .ptr 0 0 0 0 → Q (K (.exit 0, ⟨σ', H, 122⟩))) →
    Q ((W Try.prog cfgE (.loop (loopAt Try.f7 7)) ⟨σ, H, 122⟩).bind K) := by
  intro rest
  induction rest with
  | nil =>
    intro i σ hd s3 s10 hf he
    have hi : ¬ (i < (p.getD []).length) := by have := congrArg List.length hd; simp at this; omega
    have hi2 : decide (i < (p.getD []).length) = false := df hi
    rw [Wloop]
    conv => arg 1; arg 1; arg 1; simp [loopAt, loopIn, headId, Try.f7, s3, s10, h0, hi2, -getElem?_pos]
    exact he (by simp) _ (by simp) (by simp) (by simp [s3])
  | cons g rest ih =>
    intro i σ hd s3 s10 hf he
    obtain ⟨hg1, hd1, hi⟩ := drop_get hd
    have hlt : decide (i < (p.getD []).length) = true := dt hi
    have hw : IntKind.i64.wrap ((i : Int) + 1) = ((i + 1 : Nat) : Int) := wr (by omega) (by omega)
    rw [Wloop]
    conv => arg 1; arg 1; arg 1; simp [loopAt, loopIn, headId, Try.f7, s3, s10, h0, hlt, -getElem?_pos]
    simp only [Option.bind_assoc]
    refine sd_in p a s h0 i g hg1 (hcl g (List.mem_of_getElem? hg1)) _ Q g.c 0 _ (by simp) (by simp [s3]) (by simp [s10]) (by simp) (fun x hx hop σ' h6 => ?_) (fun hn σ' e1 e2 e3 e4 => ?_)
    · simp
      exact hf σ' h6
    · simp [e4, hw]
      refine ih (i + 1) _ hd1 (by simp [e3]) (by simp) hf (fun hn2 σ2 g1 g2 g3 => he (fun y hy => ?_) σ2 (by rw [g1]; simp [e1]) (by rw [g2]; simp [e2]) g3)
      rcases List.mem_cons.1 hy with rfl | hy
      · exact hn
      · exact hn2 y hy
end
theorem simp0 {p : List Fu} (hg : good p = true) : SimP 0 p p := by
  have e : ∀ x : Instr, shI ((0 : Nat) : Int) x = x := fun x => by unfold shI; split <;> simp
  refine ⟨rfl, fun i x hx => ⟨x, hx, rfl, rfl, rfl, ?_⟩, fun x hx z hz => ?_⟩
  · rw [show shI ((0 : Nat) : Int) = id from funext e, List.map_id]
  · rw [e]; exact imay_all hg hx hz
theorem ev_seed {p : List Fu} {a : List Vl} {s s' n : Int} (hr : noRand p) (h1 : isS s = true) (h2 : isS s' = true) : evS p a s n = evS p a s' n := by
  by_cases hg : good p = true
  · have S := simp0 hg
    have hm := (good_iff.1 hg).1
    have key : ∀ s s' : Int, isS s' = true → ∀ f, newF p 0 a s = some f → newF p 0 a s' = some (f.sh (0 : Nat) s') := fun s s' h f hf => by
      have := sim_new S hm hf h
      simpa using this
    cases hn : newF p 0 a s with
    | none =>
      have : newF p 0 a s' = none := by
        cases h : newF p 0 a s' with
        | none => rfl
        | some f => have := key s' s h1 f h; rw [hn] at this; cases this
      unfold evS
      rw [hn, this]
    | some f =>
      have h' := key s s' h2 f hn
      unfold evS
      rw [hn, h']
      simp only [Option.isSome_some, Option.getD_some]
      rw [runS_sim hg hm S _ f _ s' (new_sf hg hn) (.inl hr)]
  · unfold evS
    simp [hg]
theorem run_x3 (s : Int) : runS (pr_x3.getD []) 3 ⟨0, 0, [], [], [], s, 0, 0, 0, 0, o0, noK, 0⟩ 2 = some (⟨0, drawV s 0⟩, 0) := by kernel_rfl
theorem good_x3 : good (pr_x3.getD []) = true := by decide +kernel
theorem may_x3 : mayP (pr_x3.getD []) = true := by decide +kernel
theorem ev_x3 {s : Int} (hs : isS s = true) : evS (pr_x3.getD []) [] s 2 = (⟨0, drawV s 0⟩, 2, 0) := by
  have hf : newF (pr_x3.getD []) 0 [] s = some ⟨0, 0, [], [], [], s, 0, 0, 0, 0, o0, noK, 0⟩ := by
    unfold newF
    rw [if_pos ⟨may_x3, by decide, by decide, hs⟩]
    rfl
  have := ev_of (n := 2) good_x3 hf (by decide) (by decide)
  rw [run_x3] at this
  exact this
set_option maxHeartbeats 2000000 in
theorem seeds10_law (p : Option (List Fu)) (a : Option (List Vl)) (s s' n : Int) (hcl : ∀ g ∈ p.getD [], g.c.length < 2 ^ 62) : fnc Try.prog cfgE RE 7 [.agg [encProg p, encL 2 encV a, I s], I s', I n] = some (.bool true) := by
  have hS := small10_spec p a s
  have i1 := up (rIs_spec s')
  have i2 := up (rIs_spec s)
  rw [fnc_at (cfgE_ext rfl), body_eq Try.func7 rfl rfl]
  cases k1 : (small (p.getD []) 300 && decide ((a.getD []).length ≤ 40))
  · rw [k1] at hS
    simp [argsσ, Vm.results, hS, fixed10, -getElem?_pos]
  rw [k1] at hS
  cases k2 : decide (3000 < n)
  case true => simp [argsσ, Vm.results, hS, fixed10, k2, of_decide_eq_true k2, -getElem?_pos]
  have k2' := of_decide_eq_false k2
  cases k3 : isS s'
  · rw [k3] at i1
    simp [argsσ, Vm.results, hS, fixed10, k2, k2', i1, -getElem?_pos]
  rw [k3] at i1
  cases k4 : isS s
  · rw [k4] at i2
    simp [argsσ, Vm.results, hS, fixed10, k2, k2', i1, i2, -getElem?_pos]
  rw [k4] at i2
  simp only [Bool.and_eq_true, decide_eq_true_eq] at k1
  have hl := small_len k1.1
  have hl63 : (p.getD []).length < 2 ^ 63 := by omega
  have ha62 : (a.getD []).length < 2 ^ 62 := by have := k1.2; omega
  have a3 := up pa_x3
  simp only [tx_x3] at a3
  have b3 := eval_at (p := pr_x3) (a := none) (by decide) (by decide) (ev_x3 k3)
  simp only [encL] at b3
  have d3 := up (rDraw_spec s' 0)
  obtain ⟨v, hv⟩ : ∃ v, v = drawV s' 0 := ⟨_, rfl⟩
  rw [← hv] at b3 d3
  have hd := drE dr7_4
  simp [opsAt, opsIn, Try.f7] at hd
  have hdw := Wdraw hd
  clear hd
  simp [argsσ, hS, fixed10, k2, k2', i1, i2, a3, b3, d3, hdw, logL, loud, isE, drawChk, Option.bind_assoc, -getElem?_pos]
  refine sd_out p a s (by rfl) (by omega) hcl _ (fun o => o = some _) (p.getD []) 0 _ (by simp) (by simp) (by simp) (fun σ' h6 => ?_) (fun hn σ' e1 e2 e3 => ?_)
  · simp [Vm.results, h6]
  · have hr : noRand (p.getD []) := hn
    obtain ⟨o, c, e, he⟩ : ∃ o c e, evS (p.getD []) (a.getD []) s n = (o, c, e) := ⟨_, _, _, rfl⟩
    have f1 := eval_at hl63 ha62 he
    rw [ev_seed hr k4 k3] at he
    have f2 := eval_at hl63 ha62 he
    simp [argsσ, e1, e2, e3, f1, f2, Vm.results, -getElem?_pos]
end Go.Proofs.YtlpadffinfijgaaW.Rg
