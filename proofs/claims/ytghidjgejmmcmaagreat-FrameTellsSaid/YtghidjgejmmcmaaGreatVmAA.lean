/- Which programs may be, by the document; how much there is; equal lists. No conditions. -/
import Derived.Test.YtghidjgejmmcmaaGreatVmEA
import Derived.Test.YtghidjgejmmcmaaGreatVmMM
set_option linter.unusedVariables false
set_option linter.unusedSimpArgs false
namespace Go.Proofs.YtghidjgejmmcmaaGreatW.Rg
open Go.Proofs.YtghidjgejmmcmaaGreatW.Vm Go.Proofs.YtghidjgejmmcmaaGreatW.Md
open Go Go.Proofs
structure Bnd (p : List Fu) : Prop where
  len : p.length < 2 ^ 63
  code : ∀ f ∈ p, f.c.length < 2 ^ 63
theorem rhead_spec (f : Fu) : fnc Tryz.prog cfg R 85 [encFunc f] = some (.bool (headOk f)) := by
  rw [fnc_at rfl, body_eq Tryz.func85 rfl rfl]
  unfold headOk
  cases h1 : decide (0 ≤ f.arity)
  · simp [argsσ, Vm.results, h1]
  cases h2 : decide (f.arity ≤ 16)
  · simp [argsσ, Vm.results, h1, h2]
  cases h3 : decide (0 ≤ f.locals)
  · simp [argsσ, Vm.results, h1, h2, h3]
  cases h4 : decide (f.locals ≤ 16)
  · simp [argsσ, Vm.results, h1, h2, h3, h4]
  cases h5 : decide (0 ≤ f.slots)
  · simp [argsσ, Vm.results, h1, h2, h3, h4, h5]
  simp [argsσ, Vm.results, h1, h2, h3, h4, h5]
theorem rmay_in (p : Option (List Fu)) (i : Nat) (f : Fu) (hp : (p.getD [])[i]? = some f) (hi : i < (p.getD []).length) (hb : f.c.length < 2 ^ 63) {X : Type} (K : Ex × St → Option X) (x : X) : ∀ (rest : List Instr) (k : Nat) (σ : Nat → D), f.c.drop k = rest →
    σ 0 = encProg p → σ 3 = I i → σ 4 = I k →
    (∀ σ', rest.all imay = false → σ' 2 = .bool false → K (.ret, ⟨σ', [], 63⟩) = some x) → (∀ σ', rest.all imay = true → σ' 0 = encProg p → σ' 3 = I i → K (.exit 2, ⟨σ', [], 63⟩) = some x) →
    (W Tryz.prog cfg (.loop (loopAt Tryz.f47 5)) ⟨σ, [], 63⟩).bind K = some x
  | [], k, σ, hd, s0, s3, s4, hr, he => by
    have hk : ¬ (k < (f.code.getD []).length) := by have := congrArg List.length hd; simp at this; exact Nat.not_lt.2 (Nat.le_of_sub_eq_zero this)
    have hx := idxD_nat .i64 hi
    rw [Wloop]
    conv => lhs; arg 1; arg 1; simp [loopAt, loopIn, headId, Tryz.f47, s0, s3, s4, hx, hp, hk]
    exact he _ rfl (by simp [s0]) (by simp [s3])
  | y :: rest, k, σ, hd, s0, s3, s4, hr, he => by
    obtain ⟨hg1, hd1, hk⟩ := drop_get hd
    have hg2 : (f.code.getD [])[k]? = some y := hg1
    have hk' : k < (f.code.getD []).length := hk
    have hlt : decide (k < (f.code.getD []).length) = true := dt hk
    have hx := idxD_nat .i64 hi
    have hx2 := idxD_nat .i64 hk'
    have hw : IntKind.i64.wrap ((k : Int) + 1) = ((k + 1 : Nat) : Int) := wr (by omega) (by omega)
    have hm := rmay6_spec y
    cases h1 : imay y with
    | false =>
      rw [h1] at hm
      rw [Wloop]
      conv => lhs; arg 1; arg 1; simp [loopAt, loopIn, headId, Tryz.f47, s0, s3, s4, hx, hx2, hp, hlt, hg2, hm]
      exact hr _ (by simp [h1]) (by simp)
    | true =>
      rw [h1] at hm
      rw [Wloop]
      conv => lhs; arg 1; arg 1; simp [loopAt, loopIn, headId, Tryz.f47, s0, s3, s4, hx, hx2, hp, hlt, hg2, hm, hw]
      rw [Option.bind_some, loopK_normal]
      refine rmay_in p i f hp hi hb K x rest (k + 1) _ hd1 (by simp [s0]) (by simp [s3]) (by simp) ?_ ?_
      · intro σ' h2 h3; exact hr σ' (by simp [h2]) h3
      · intro σ' h2 h3 h4; exact he σ' (by simp [h1, h2]) h3 h4
theorem rmay_out (p : Option (List Fu)) (hb : Bnd (p.getD [])) {X : Type} (K : Ex × St → Option X) (x : X) : ∀ (rest : List Fu) (i : Nat) (σ : Nat → D), (p.getD []).drop i = rest →
    σ 0 = encProg p → σ 3 = I i →
    (∀ σ', rest.all fmay = false → σ' 2 = .bool false → K (.ret, ⟨σ', [], 63⟩) = some x) → (∀ σ', rest.all fmay = true → σ' 0 = encProg p → K (.exit 0, ⟨σ', [], 63⟩) = some x) →
    (W Tryz.prog cfg (.loop (loopAt Tryz.f47 2)) ⟨σ, [], 63⟩).bind K = some x
  | [], i, σ, hd, s0, s3, hr, he => by
    have hi : ¬ (i < (p.getD []).length) := by have := congrArg List.length hd; simp at this; omega
    rw [Wloop]
    conv => lhs; arg 1; arg 1; simp [loopAt, loopIn, headId, Tryz.f47, s0, s3, hi]
    exact he _ rfl (by simp [s0])
  | f :: rest, i, σ, hd, s0, s3, hr, he => by
    obtain ⟨hg1, hd1, hi⟩ := drop_get hd
    have hlt : decide (i < (p.getD []).length) = true := dt hi
    have hx := idxD_nat .i64 hi
    have hw : IntKind.i64.wrap ((i : Int) + 1) = ((i + 1 : Nat) : Int) := wr (by omega) (by have := hb.len; omega)
    have hh := rhead_spec f
    have hcb := hb.code f (List.mem_of_getElem? hg1)
    have hcl : (f.code.getD []).length = f.c.length := rfl
    rw [Wloop]
    conv => lhs; arg 1; arg 1; simp [loopAt, loopIn, headId, Tryz.f47, s0, s3, hlt]
    simp only [Option.bind_assoc]
    refine rmay_in p i f hg1 hi hcb _ x f.c 0 _ (by simp) (by simp [s0]) (by simp [s3]) (by simp) ?_ ?_
    · intro σ' h1 h2
      have hf : fmay f = false := by unfold fmay; rw [h1]; simp
      simp
      exact hr _ (by simp [hf]) h2
    · intro σ' h1 h2 h3
      cases c1 : headOk f with
      | false =>
        rw [c1] at hh
        have hf : fmay f = false := by unfold fmay; rw [c1]; simp
        simp [h2, h3, hx, hg1, hh]
        exact hr _ (by simp [hf]) (by simp)
      | true =>
        rw [c1] at hh
        cases c2 : decide (f.c.length < 1) with
        | true =>
          have c2' : f.code.getD [] = [] := List.eq_nil_of_length_eq_zero (by have := of_decide_eq_true c2; omega)
          have hf : fmay f = false := by unfold fmay; rw [c1, h1]; have := of_decide_eq_true c2; simp; omega
          have d2 : decide ((f.c.length : Int) < 1) = true := dt (by have := of_decide_eq_true c2; omega)
          simp [h2, h3, hx, hg1, hh, hcl, d2]
          exact hr _ (by simp [hf]) (by simp)
        | false =>
          have d2 : decide ((f.c.length : Int) < 1) = false := df (by have := of_decide_eq_false c2; omega)
          cases c3 : decide (200 < f.c.length) with
          | true =>
            have d3 : decide ((200 : Int) < f.c.length) = true := dt (by have := of_decide_eq_true c3; omega)
            have hf : fmay f = false := by unfold fmay; rw [c1, h1]; have := of_decide_eq_true c3; simp; omega
            simp [h2, h3, hx, hg1, hh, hcl, d2, d3]
            exact hr _ (by simp [hf]) (by simp)
          | false =>
            have d3 : decide ((200 : Int) < f.c.length) = false := df (by have := of_decide_eq_false c3; omega)
            have hf : fmay f = true := by unfold fmay; rw [c1, h1]; have := of_decide_eq_false c3; have := of_decide_eq_false c2; simp; omega
            simp [h2, h3, hx, hg1, hh, hcl, d2, d3, hw]
            refine rmay_out p hb K x rest (i + 1) _ hd1 (by simp [h2]) (by simp) ?_ ?_
            · intro σ' ha h2; exact hr σ' (by simp [ha]) h2
            · intro σ' ha h2; exact he σ' (by simp [ha, hf]) h2
theorem rmay7_spec (p : Option (List Fu)) (hb : Bnd (p.getD [])) : fnc Tryz.prog cfg R 47 [encProg p] = some (.bool (mayP (p.getD []))) := by
  rw [fnc_at rfl, body_eq Tryz.func47 rfl rfl]
  simp [argsσ, Option.bind_assoc]
  refine rmay_out p hb _ _ (p.getD []) 0 _ (by simp) (by simp [argsσ]) (by simp) ?_ ?_
  · intro σ' ha h2; simp [h2, Vm.results, mayP, ha]
  · intro σ' ha h2
    cases c1 : decide ((1 : Int) ≤ (p.getD []).length) with
    | false =>
      have := of_decide_eq_false c1
      simp [h2, Vm.results, mayP, ha, c1]
      omega
    | true =>
      have := of_decide_eq_true c1
      simp [h2, Vm.results, mayP, ha, c1]
      first | omega | (rw [Bool.eq_iff_iff]; simp only [Bool.and_eq_true, decide_eq_true_eq]; omega)
end Go.Proofs.YtghidjgejmmcmaaGreatW.Rg
namespace Go.Proofs.YtghidjgejmmcmaaGreatW.Rg
open Go.Proofs.YtghidjgejmmcmaaGreatW.Vm Go.Proofs.YtghidjgejmmcmaaGreatW.Md
open Go Go.Proofs
/-- how many instructions there are, as 64 bits tell it -/
def sumW : Int → List Fu → Int
  | n, [] => n
  | n, f :: fs => sumW (IntKind.i64.wrap (n + f.c.length)) fs
theorem small_loop (p : Option (List Fu)) (h20 : (p.getD []).length ≤ 20) (m : D) {X : Type} (K : Ex × St → Option X) (Q : Option X → Prop) : ∀ (rest : List Fu) (i : Nat) (n : Int) (σ : Nat → D), (p.getD []).drop i = rest →
    σ 0 = encProg p → σ 1 = m → σ 5 = I n → σ 6 = I i →
    (∀ σ', σ' 0 = encProg p → σ' 1 = m → σ' 5 = I (sumW n rest) → Q (K (.exit 0, ⟨σ', [], 34⟩))) →
    Q ((W Tryz.prog cfg (.loop (loopAt Tryz.f4 3)) ⟨σ, [], 34⟩).bind K) := by
  intro rest
  induction rest with
  | nil =>
    intro i n σ hd s0 s1 s5 s6 he
    have hi : ¬ (i < (p.getD []).length) := by have := congrArg List.length hd; simp at this; omega
    rw [Wloop]
    conv => arg 1; arg 1; arg 1; simp [loopAt, loopIn, headId, Tryz.f4, s0, s6, hi]
    exact he _ (by simp [s0]) (by simp [s1]) (by simp [s5, sumW])
  | cons f rest ih =>
    intro i n σ hd s0 s1 s5 s6 he
    obtain ⟨hg1, hd1, hi⟩ := drop_get hd
    have hlt : decide (i < (p.getD []).length) = true := dt hi
    have hx := idxD_nat .i64 hi
    have hw : IntKind.i64.wrap ((i : Int) + 1) = ((i + 1 : Nat) : Int) := wr (by omega) (by omega)
    have d20 : decide (((p.getD []).length : Int) ≤ 20) = true := dt (by omega)
    rw [Wloop]
    conv => arg 1; arg 1; arg 1; simp [loopAt, loopIn, headId, Tryz.f4, s0, s1, s5, s6, hlt, hx, hg1, hw, d20]
    rw [Option.bind_some, loopK_normal]
    exact ih (i + 1) _ _ hd1 (by simp [s0]) (by simp [s1]) (by simp; rfl) (by simp) he
def small (p : List Fu) (m : Int) : Bool := decide (p.length ≤ 20) && decide (sumW 0 p ≤ m)
theorem small_spec (p : Option (List Fu)) (m : Int) : fnc Tryz.prog cfg R 4 [encProg p, I m] = some (.bool (small (p.getD []) m)) := by
  rw [fnc_at rfl, body_eq Tryz.func4 rfl rfl]
  unfold small
  cases c1 : decide ((p.getD []).length ≤ 20)
  · have d20 : decide (((p.getD []).length : Int) ≤ 20) = false := df (by have := of_decide_eq_false c1; omega)
    cases c2 : decide (0 < (p.getD []).length) <;> simp [argsσ, Wloop, Vm.results, d20, c2]
  · have d20 : decide (((p.getD []).length : Int) ≤ 20) = true := dt (by have := of_decide_eq_true c1; omega)
    simp [argsσ, Option.bind_assoc]
    refine small_loop p (of_decide_eq_true c1) (I m) _ (fun o => o = some _) (p.getD []) 0 0 _ (by simp) (by simp [argsσ]) (by simp [argsσ]) (by simp) (by simp) ?_
    intro σ' h0 h1 h5
    simp [h0, h1, h5, d20, Vm.results]
end Go.Proofs.YtghidjgejmmcmaaGreatW.Rg
