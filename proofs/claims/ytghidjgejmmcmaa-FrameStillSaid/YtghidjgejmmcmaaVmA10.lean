/- The document's check and depths. No conditions. -/
import Derived.Test.YtghidjgejmmcmaaVmA5
set_option linter.unusedVariables false
set_option linter.unusedSimpArgs false
namespace Go.Proofs.YtghidjgejmmcmaaW.Rg
open Go.Proofs.YtghidjgejmmcmaaW.Vm Go.Proofs.YtghidjgejmmcmaaW.Md
open Go Go.Proofs
def Jumps (c : List Instr) : Prop := ∀ x ∈ c, (x.op = 10 ∨ x.op = 11) → x.a < c.length
theorem fm_safe {p : List Fu} (hm : mayP p = true) {f : Fu} (hf : f ∈ p) (h : ∀ x ∈ f.c, fieldE p.length f x = 0) : Safe p f.c ∧ Jumps f.c := by
  have hfm := mayP_f hm hf
  refine ⟨⟨fun g hg => ⟨(fmay_head (mayP_f hm hg)).1, (fmay_head (mayP_f hm hg)).2.1⟩, fmay_all hfm, fun x hx h13 => (fieldE_spawn (h x hx) h13).2, (fmay_len hfm).2⟩, fun x hx ho => ?_⟩
  have e := h x hx
  unfold fieldE at e
  rw [if_neg (by omega), if_neg (by omega), if_neg (by omega), if_pos ho] at e
  split at e <;> omega
theorem rfields_loop (p : Option (List Fu)) (f : Fu) (h200 : f.c.length ≤ 200) {X : Type} (K : Ex × St → Option X) (Q : Option X → Prop) : ∀ (rest : List Instr) (i : Nat) (σ : Nat → D), f.c.drop i = rest →
    σ 0 = encProg p → σ 3 = .ptr 0 0 0 0 → σ 6 = I i →
    (∀ σ' (j : Nat) e, firstE (p.getD []).length f i rest = some (j, e) → σ' 4 = I j → σ' 5 = I e → Q (K (.ret, ⟨σ', [⟨0, 4, [encFunc f], 0⟩], 44⟩))) →
    (∀ σ', firstE (p.getD []).length f i rest = none → σ' 0 = encProg p → σ' 3 = .ptr 0 0 0 0 → Q (K (.exit 0, ⟨σ', [⟨0, 4, [encFunc f], 0⟩], 44⟩))) →
    Q ((W Try.prog cfg (.loop (loopAt Try.f45 4)) ⟨σ, [⟨0, 4, [encFunc f], 0⟩], 44⟩).bind K) := by
  intro rest
  induction rest with
  | nil =>
    intro i σ hd s0 s3 s6 hr1 he
    have hi : ¬ (i < (f.code.getD []).length) := by have := congrArg List.length hd; simp at this; exact Nat.not_lt.2 (Nat.le_of_sub_eq_zero this)
    rw [Wloop]
    conv => arg 1; arg 1; arg 1; simp [loopAt, loopIn, headId, Try.f45, s3, s6, hi]
    exact he _ rfl (by simp [s0]) (by simp [s3])
  | cons y rest ih =>
    intro i σ hd s0 s3 s6 hr1 he
    obtain ⟨hg1, hd1, hi⟩ := drop_get hd
    have hi' : i < (f.code.getD []).length := hi
    have hlt : decide (i < (f.code.getD []).length) = true := dt hi
    have hg' : (f.code.getD [])[i]? = some y := hg1
    have hx : idxD (f.code.getD []).length (D.int .i64 (i : Int)) = some i := idxD_nat .i64 hi
    have hw : IntKind.i64.wrap ((i : Int) + 1) = ((i + 1 : Nat) : Int) := wr (by omega) (by omega)
    have hF := rfield_spec p f y
    have hd := dr45_6
    simp [opsAt, opsIn, Try.f45] at hd
    have hdw := Wdraw0 hd
    clear hd
    unfold firstE at hr1 he
    generalize hE : fieldE (p.getD []).length f y = e at *
    cases c1 : decide (e = 0)
    · rw [if_neg (of_decide_eq_false c1)] at hr1
      rw [Wloop]
      conv => arg 1; arg 1; arg 1; simp [loopAt, loopIn, headId, Try.f45, s0, s3, s6, hlt, hx, hg', hdw, hF, c1]
      exact hr1 _ i e rfl (by simp) (by simp)
    · rw [if_pos (of_decide_eq_true c1)] at hr1 he
      rw [Wloop]
      conv => arg 1; arg 1; arg 1; simp [loopAt, loopIn, headId, Try.f45, s0, s3, s6, hlt, hx, hg', hdw, hF, c1, hw]
      rw [Option.bind_some, loopK_normal]
      exact ih (i + 1) _ hd1 (by simp [s0]) (by simp [s3]) (by simp) hr1 he
theorem rfunction_spec (p : Option (List Fu)) (hm : mayP (p.getD []) = true) (f : Fu) (hf : f ∈ p.getD []) : ∃ a, fnc Try.prog cfg R 45 [encProg p, encFunc f] = some (.tup [I a, I (funcE (p.getD []) f).2]) ∧ ((funcE (p.getD []) f).2 ≠ 0 → a = (funcE (p.getD []) f).1) := by
  have hfm := mayP_f hm hf
  have hl := fmay_len hfm
  have main : (fun o : Option D => ∃ a, o = some (.tup [I a, I (funcE (p.getD []) f).2]) ∧ ((funcE (p.getD []) f).2 ≠ 0 → a = (funcE (p.getD []) f).1)) (fnc Try.prog cfg R 45 [encProg p, encFunc f]) := by
    rw [fnc_at rfl, body_eq Try.func45 rfl rfl]
    cases c0 : decide (f.locals < f.arity)
    · simp [argsσ, c0, Option.bind_assoc]
      refine rfields_loop p f hl.2 _ (fun o : Option D => ∃ a, o = some (.tup [I a, I (funcE (p.getD []) f).2]) ∧ (¬ (funcE (p.getD []) f).2 = 0 → a = (funcE (p.getD []) f).1)) f.c 0 _ (by simp) (by simp [argsσ]) (by simp) (by simp) ?_ ?_
      · intro σ' j e hE h4 h5
        have e1 : funcE (p.getD []) f = ((j : Int), e) := by unfold funcE; rw [if_neg (of_decide_eq_false c0), hE]
        simp [h4, h5, Vm.results, e1]
      · intro σ' hE h0 h3
        obtain ⟨hs, hj⟩ := fm_safe hm hf (firstE_none.1 hE)
        have hR := rreach_spec p f hs hl.1
        have e1 : funcE (p.getD []) f = match reach (shapes (p.getD []) f.c) with | .inl r => r | .inr _ => (0, 0) := by unfold funcE; rw [if_neg (of_decide_eq_false c0), hE]; rfl
        rw [e1]
        cases hr : reach (shapes (p.getD []) f.c) with
        | inl r =>
          obtain ⟨a, e⟩ := r
          rw [hr] at hR
          obtain ⟨ds, hR⟩ := hR
          simp [h0, h3, hR, Vm.results]
        | inr d =>
          rw [hr] at hR
          simp [h0, h3, hR, Vm.results]
    · have e1 : funcE (p.getD []) f = (0, 80) := by unfold funcE; rw [if_pos (of_decide_eq_true c0)]
      simp [argsσ, c0, Vm.results, e1]
  exact main
theorem rcheck_loop (p : Option (List Fu)) (hm : mayP (p.getD []) = true) {X : Type} (K : Ex × St → Option X) (Q : Option X → Prop) : ∀ (rest : List Fu) (i : Nat) (σ : Nat → D), (p.getD []).drop i = rest →
    σ 0 = encProg p → σ 5 = I i →
    (∀ σ', (goE (p.getD []) i rest).2.2 ≠ 0 → σ' 2 = I (goE (p.getD []) i rest).1 → σ' 3 = I (goE (p.getD []) i rest).2.1 → σ' 4 = I (goE (p.getD []) i rest).2.2 → Q (K (.ret, ⟨σ', [], 31⟩))) →
    (∀ σ', goE (p.getD []) i rest = (0, 0, 0) → Q (K (.exit 0, ⟨σ', [], 31⟩))) →
    Q ((W Try.prog cfg (.loop (loopAt Try.f21 4)) ⟨σ, [], 31⟩).bind K) := by
  have hpl : (p.getD []).length ≤ 16 := by unfold mayP at hm; simp only [Bool.and_eq_true, decide_eq_true_eq] at hm; omega
  intro rest
  induction rest with
  | nil =>
    intro i σ hd s0 s5 hr1 he
    have hi : ¬ (i < (p.getD []).length) := by have := congrArg List.length hd; simp at this; omega
    rw [Wloop]
    conv => arg 1; arg 1; arg 1; simp [loopAt, loopIn, headId, Try.f21, s0, s5, hi]
    exact he _ rfl
  | cons f rest ih =>
    intro i σ hd s0 s5 hr1 he
    obtain ⟨hg1, hd1, hi⟩ := drop_get hd
    have hlt : decide (i < (p.getD []).length) = true := dt hi
    have hx := idxD_nat .i64 hi
    have hw : IntKind.i64.wrap ((i : Int) + 1) = ((i + 1 : Nat) : Int) := wr (by omega) (by omega)
    obtain ⟨a, hF, ha⟩ := rfunction_spec p hm f (List.mem_of_getElem? hg1)
    unfold goE at hr1 he
    cases c1 : decide ((funcE (p.getD []) f).2 = 0)
    · have h1 := of_decide_eq_false c1
      rw [if_neg h1] at hr1
      rw [ha h1] at hF
      rw [Wloop]
      conv => arg 1; arg 1; arg 1; simp [loopAt, loopIn, headId, Try.f21, s0, s5, hlt, hx, hg1, hF, c1]
      exact hr1 _ h1 (by simp) (by simp) (by simp)
    · rw [if_pos (of_decide_eq_true c1)] at hr1 he
      rw [Wloop]
      conv => arg 1; arg 1; arg 1; simp [loopAt, loopIn, headId, Try.f21, s0, s5, hlt, hx, hg1, hF, c1, hw]
      rw [Option.bind_some, loopK_normal]
      exact ih (i + 1) _ hd1 (by simp [s0]) (by simp) hr1 he
theorem rcheck_spec (p : Option (List Fu)) (hb : Bnd (p.getD [])) : fnc Try.prog cfg R 21 [encProg p] = some (.tup [I (check (p.getD [])).1, I (check (p.getD [])).2.1, I (check (p.getD [])).2.2]) := by
  have hM := rmay7_spec p hb
  rw [fnc_at rfl, body_eq Try.func21 rfl rfl]
  unfold check
  cases hm : mayP (p.getD []) with
  | false =>
    rw [hm] at hM
    simp [argsσ, Vm.results, hM]
  | true =>
    rw [hm] at hM
    rw [if_pos rfl]
    simp [argsσ, hM, Option.bind_assoc]
    refine rcheck_loop p hm _ (fun o => o = some _) (p.getD []) 0 _ (by simp) (by simp [argsσ]) (by simp) ?_ ?_
    · intro σ' h0 h2 h3 h4
      simp [h2, h3, h4, Vm.results]
    · intro σ' h0
      simp [Vm.results, h0]
theorem rgood_spec (p : Option (List Fu)) (hb : Bnd (p.getD [])) : fnc Try.prog cfg R 9 [encProg p] = some (.bool (good (p.getD []))) := by
  have hC := rcheck_spec p hb
  rw [fnc_at rfl, body_eq Try.func9 rfl rfl]
  unfold good
  simp [argsσ, Vm.results, hC]
  rfl
theorem rdepths_spec (p : Option (List Fu)) (hb : Bnd (p.getD [])) (fn : Int) : fnc Try.prog cfg R 11 [encProg p, I fn] = some (encL 1 I (if good (p.getD []) = true ∧ 0 ≤ fn ∧ fn < (p.getD []).length then some (depths (p.getD []) fn) else none)) := by
  have hC := rgood_spec p hb
  rw [fnc_at rfl, body_eq Try.func11 rfl rfl]
  cases hg : good (p.getD []) with
  | false =>
    rw [hg] at hC
    simp [argsσ, hC, Vm.results, encL]
  | true =>
    rw [hg] at hC
    cases c1 : decide (fn < 0)
    case true =>
      have := of_decide_eq_true c1
      rw [if_neg (by omega)]
      simp [argsσ, hC, c1, Vm.results, encL]
    cases c2 : decide (((p.getD []).length : Int) ≤ fn)
    case true =>
      have := of_decide_eq_true c2
      rw [if_neg (by omega)]
      simp [argsσ, hC, c1, c2, Vm.results, encL]
    have h1 := of_decide_eq_false c1
    have h2 := of_decide_eq_false c2
    rw [if_pos ⟨rfl, by omega, by omega⟩]
    obtain ⟨n, rfl⟩ : ∃ n : Nat, fn = n := ⟨fn.toNat, by omega⟩
    have hn : n < (p.getD []).length := by omega
    have hf : (p.getD [])[n]? = some (p.getD [])[n] := List.getElem?_eq_getElem hn
    generalize (p.getD [])[n] = f at hf
    have hfm := List.mem_of_getElem? hf
    obtain ⟨hm, hall⟩ := good_iff.1 hg
    obtain ⟨_, hE, _⟩ := hall f hfm
    obtain ⟨hs, hj⟩ := fm_safe hm hfm hE
    have hlf := fmay_len (mayP_f hm hfm)
    have hR := rreach_spec p f hs hlf.1
    obtain ⟨hr, hfin⟩ := good_fin hg hfm
    rw [hr] at hR
    have hx := idxD_nat .i64 hn
    have c3 : decide ((p.getD []).length ≤ n) = false := df (by omega)
    rw [depths_good hg hf]
    simp [argsσ, hC, c1, c2, c3, hx, hf, hR, Vm.results, encL]
/-- how many instructions there are, as 64 bits tell it -/
def sumW : Int → List Fu → Int
  | n, [] => n
  | n, f :: fs => sumW (IntKind.i64.wrap (n + f.c.length)) fs
theorem small_loop (p : Option (List Fu)) (h20 : (p.getD []).length ≤ 20) (m : D) {X : Type} (K : Ex × St → Option X) (Q : Option X → Prop) : ∀ (rest : List Fu) (i : Nat) (n : Int) (σ : Nat → D), (p.getD []).drop i = rest →
    σ 0 = encProg p → σ 1 = m → σ 5 = I n → σ 6 = I i →
    (∀ σ', σ' 0 = encProg p → σ' 1 = m → σ' 5 = I (sumW n rest) → Q (K (.exit 0, ⟨σ', [], 34⟩))) →
    Q ((W Try.prog cfg (.loop (loopAt Try.f8 3)) ⟨σ, [], 34⟩).bind K) := by
  intro rest
  induction rest with
  | nil =>
    intro i n σ hd s0 s1 s5 s6 he
    have hi : ¬ (i < (p.getD []).length) := by have := congrArg List.length hd; simp at this; omega
    rw [Wloop]
    conv => arg 1; arg 1; arg 1; simp [loopAt, loopIn, headId, Try.f8, s0, s6, hi]
    exact he _ (by simp [s0]) (by simp [s1]) (by simp [s5, sumW])
  | cons f rest ih =>
    intro i n σ hd s0 s1 s5 s6 he
    obtain ⟨hg1, hd1, hi⟩ := drop_get hd
    have hlt : decide (i < (p.getD []).length) = true := dt hi
    have hx := idxD_nat .i64 hi
    have hw : IntKind.i64.wrap ((i : Int) + 1) = ((i + 1 : Nat) : Int) := wr (by omega) (by omega)
    have d20 : decide (((p.getD []).length : Int) ≤ 20) = true := dt (by omega)
    rw [Wloop]
    conv => arg 1; arg 1; arg 1; simp [loopAt, loopIn, headId, Try.f8, s0, s1, s5, s6, hlt, hx, hg1, hw, d20]
    rw [Option.bind_some, loopK_normal]
    exact ih (i + 1) _ _ hd1 (by simp [s0]) (by simp [s1]) (by simp; rfl) (by simp) he
def small (p : List Fu) (m : Int) : Bool := decide (p.length ≤ 20) && decide (sumW 0 p ≤ m)
theorem small_spec (p : Option (List Fu)) (m : Int) : fnc Try.prog cfg R 8 [encProg p, I m] = some (.bool (small (p.getD []) m)) := by
  rw [fnc_at rfl, body_eq Try.func8 rfl rfl]
  unfold small
  cases c1 : decide ((p.getD []).length ≤ 20)
  · have d20 : decide (((p.getD []).length : Int) ≤ 20) = false := df (by have := of_decide_eq_false c1; omega)
    cases c2 : decide (0 < (p.getD []).length) <;> simp [argsσ, Wloop, Vm.results, d20, c2]
  · have d20 : decide (((p.getD []).length : Int) ≤ 20) = true := dt (by have := of_decide_eq_true c1; omega)
    simp [argsσ, Option.bind_assoc]
    refine small_loop p (of_decide_eq_true c1) (I m) _ (fun o => o = some _) (p.getD []) 0 0 _ (by simp) (by simp [argsσ]) (by simp [argsσ]) (by simp) (by simp) ?_
    intro σ' h0 h1 h5
    simp [h0, h1, h5, d20, Vm.results]
end Go.Proofs.YtghidjgejmmcmaaW.Rg
