/- SeqValue. No conditions. -/
import Derived.Test.YtlpadffinfijgaaVmQL2
set_option linter.unusedVariables false
set_option linter.unusedSimpArgs false
set_option maxRecDepth 10000
namespace Go.Proofs.YtlpadffinfijgaaW.Rg
open Go.Proofs.YtlpadffinfijgaaW.Vm Go.Proofs.YtlpadffinfijgaaW.Md
open Go Go.Proofs
section
variable (p : Option (List Fu)) (a : Option (List Vl)) (s : Int) {H : List Ob} (h0 : H[0]? = some (oIn p a s))
include h0
theorem vl_args (hl : (a.getD []).length < 2 ^ 62) {X : Type} (K : Ex × St → Option X) (Q : Option X → Prop) : ∀ (rest : List Vl) (k : Nat) (b : Bool) (σ : Nat → D), (a.getD []).drop k = rest →
    σ 2 = .ptr 0 0 0 0 → σ 8 = .bool b → σ 9 = I k →
    (∀ σ', σ' 2 = .ptr 0 0 0 0 → σ' 5 = σ 5 → σ' 7 = σ 7 → σ' 8 = .bool (b && rest.all Vl.may) → Q (K (.exit 0, ⟨σ', H, 169⟩))) →
    Q ((W Try.prog cfgE (.loop (loopAt Try.f4 6)) ⟨σ, H, 169⟩).bind K) := by
  intro rest
  induction rest with
  | nil =>
    intro k b σ hd s2 s8 s9 he
    have hi : ¬ (k < (a.getD []).length) := by have := congrArg List.length hd; simp at this; omega
    have hi2 : decide (k < (a.getD []).length) = false := df hi
    rw [Wloop]
    conv => arg 1; arg 1; arg 1; simp [loopAt, loopIn, headId, Try.f4, s2, s8, s9, h0, hi2, -getElem?_pos]
    exact he _ (by simp [s2]) (by simp) (by simp) (by simp [s8])
  | cons y rest ih =>
    intro k b σ hd s2 s8 s9 he
    obtain ⟨hg1, hd1, hi⟩ := drop_get hd
    have hlt : decide (k < (a.getD []).length) = true := dt hi
    have hx := idxD_nat .i64 hi
    have hw : IntKind.i64.wrap ((k : Int) + 1) = ((k + 1 : Nat) : Int) := wr (by omega) (by omega)
    have hm := up (rMay_spec y)
    cases b
    · rw [Wloop]
      conv => arg 1; arg 1; arg 1; simp [loopAt, loopIn, headId, Try.f4, s2, s8, s9, h0, hlt, hx, hg1, hw, -getElem?_pos]
      rw [Option.bind_some, loopK_normal]
      exact ih (k + 1) false _ hd1 (by simp [s2]) (by simp) (by simp) (fun σ' e1 e2 e3 e4 => he σ' e1 (by rw [e2]; simp) (by rw [e3]; simp) (by simpa using e4))
    · rw [Wloop]
      conv => arg 1; arg 1; arg 1; simp [loopAt, loopIn, headId, Try.f4, s2, s8, s9, h0, hlt, hx, hg1, hw, hm, -getElem?_pos]
      rw [Option.bind_some, loopK_normal]
      exact ih (k + 1) (y.may) _ hd1 (by simp [s2]) (by simp) (by simp) (fun σ' e1 e2 e3 e4 => he σ' e1 (by rw [e2]; simp) (by rw [e3]; simp) (by rw [e4]; simp))
theorem vl_in (o : Ou) (e : Int) (h1 : H[1]? = some ⟨0, 3, [encO o], 0⟩) (i : Nat) (g : Fu) (hg : (p.getD [])[i]? = some g) (hgl : g.c.length < 2 ^ 62) {X : Type} (K : Ex × St → Option X) (Q : Option X → Prop) : ∀ (rest : List Instr) (k : Nat) (σ : Nat → D), g.c.drop k = rest →
    σ 2 = .ptr 0 0 0 0 → σ 5 = .ptr 1 0 0 0 → σ 7 = I e → σ 10 = I i → σ 11 = I k → (∀ x ∈ rest, x.op = 16 → o.trap = x.a → e = 0 ∧ o.v = v0) →
    (∀ σ', σ' 4 = .bool true → Q (K (.ret, ⟨σ', H, 169⟩))) →
    ((∀ x ∈ rest, x.op = 16 → o.trap ≠ x.a) → ∀ σ', σ' 2 = .ptr 0 0 0 0 → σ' 5 = .ptr 1 0 0 0 → σ' 7 = I e → σ' 10 = I i → Q (K (.exit 4, ⟨σ', H, 169⟩))) →
    Q ((W Try.prog cfgE (.loop (loopAt Try.f4 15)) ⟨σ, H, 169⟩).bind K) := by
  intro rest
  have hil : i < (p.getD []).length := (List.getElem?_eq_some_iff.1 hg).1
  have hx := idxD_nat .i64 hil
  have hdr := drE dr4_17
  simp [opsAt, opsIn, Try.f4] at hdr
  have hdw := Wdraw hdr
  clear hdr
  induction rest with
  | nil =>
    intro k σ hd s2 s5 s7 s10 s11 hh hf he
    have hi : ¬ (k < g.c.length) := by have := congrArg List.length hd; simp at this; omega
    have hi2 : decide (k < (g.code.getD []).length) = false := df hi
    rw [Wloop]
    conv => arg 1; arg 1; arg 1; simp [loopAt, loopIn, headId, Try.f4, s2, s10, s11, h0, hx, hg, hi2, -getElem?_pos]
    exact he (by simp) _ (by simp [s2]) (by simp [s5]) (by simp [s7]) (by simp [s10])
  | cons y rest ih =>
    intro k σ hd s2 s5 s7 s10 s11 hh hf he
    obtain ⟨hg1, hd1, hi⟩ := drop_get hd
    have hg1 : (g.code.getD [])[k]? = some y := hg1
    have hi : k < (g.code.getD []).length := hi
    have hlt : decide (k < (g.code.getD []).length) = true := dt hi
    have hx2 := idxD_nat .i64 hi
    have hw : IntKind.i64.wrap ((k : Int) + 1) = ((k + 1 : Nat) : Int) := wr (by have : (g.code.getD []).length < 2 ^ 62 := hgl; omega) (by have : (g.code.getD []).length < 2 ^ 62 := hgl; omega)
    cases c1 : decide (y.op = 16)
    · rw [Wloop]
      conv => arg 1; arg 1; arg 1; simp [loopAt, loopIn, headId, Try.f4, s2, s5, s7, s10, s11, h0, h1, hx, hg, hlt, hx2, hg1, c1, hw, hdw, logL, loud, isE, drawChk, -getElem?_pos]
      rw [Option.bind_some, loopK_normal]
      refine ih (k + 1) _ hd1 (by simp [s2]) (by simp [s5]) (by simp [s7]) (by simp [s10]) (by simp) (fun x hx => hh x (by simp [hx])) hf (fun hn σ' e1 e2 e3 e4 => he (fun x hx => ?_) σ' e1 e2 e3 e4)
      rcases List.mem_cons.1 hx with rfl | hx
      · exact fun h => absurd h (of_decide_eq_false c1)
      · exact hn x hx
    cases c2 : decide (o.trap = y.a)
    · rw [Wloop]
      conv => arg 1; arg 1; arg 1; simp [loopAt, loopIn, headId, Try.f4, s2, s5, s7, s10, s11, h0, h1, hx, hg, hlt, hx2, hg1, c1, c2, hw, hdw, logL, loud, isE, drawChk, -getElem?_pos]
      rw [Option.bind_some, loopK_normal]
      refine ih (k + 1) _ hd1 (by simp [s2]) (by simp [s5]) (by simp [s7]) (by simp [s10]) (by simp) (fun x hx => hh x (by simp [hx])) hf (fun hn σ' e1 e2 e3 e4 => he (fun x hx => ?_) σ' e1 e2 e3 e4)
      rcases List.mem_cons.1 hx with rfl | hx
      · exact fun _ => of_decide_eq_false c2
      · exact hn x hx
    · obtain ⟨z1, z2⟩ := hh y (by simp) (of_decide_eq_true c1) (of_decide_eq_true c2)
      subst z1
      rw [Wloop]
      conv => arg 1; arg 1; arg 1; simp [loopAt, loopIn, headId, Try.f4, s2, s5, s7, s10, s11, h0, h1, hx, hg, hlt, hx2, hg1, c1, c2, hw, hdw, logL, loud, isE, drawChk, z2, v0, -getElem?_pos]
      exact hf _ (by simp)
theorem vl_out (o : Ou) (e : Int) (h1 : H[1]? = some ⟨0, 3, [encO o], 0⟩) (hl : (p.getD []).length < 2 ^ 62) (hcl : ∀ g ∈ p.getD [], g.c.length < 2 ^ 62) {X : Type} (K : Ex × St → Option X) (Q : Option X → Prop) : ∀ (rest : List Fu) (i : Nat) (σ : Nat → D), (p.getD []).drop i = rest →
    σ 2 = .ptr 0 0 0 0 → σ 5 = .ptr 1 0 0 0 → σ 7 = I e → σ 10 = I i → (∀ g ∈ rest, ∀ x ∈ g.c, x.op = 16 → o.trap = x.a → e = 0 ∧ o.v = v0) →
    (∀ σ', σ' 4 = .bool true → Q (K (.ret, ⟨σ', H, 169⟩))) →
    ((∀ g ∈ rest, ∀ x ∈ g.c, x.op = 16 → o.trap ≠ x.a) → ∀ σ', σ' 2 = .ptr 0 0 0 0 → σ' 5 = .ptr 1 0 0 0 → σ' 7 = I e → Q (K (.exit 2, ⟨σ', H, 169⟩))) →
    Q ((W Try.prog cfgE (.loop (loopAt Try.f4 12)) ⟨σ, H, 169⟩).bind K) := by
  intro rest
  induction rest with
  | nil =>
    intro i σ hd s2 s5 s7 s10 hh hf he
    have hi : ¬ (i < (p.getD []).length) := by have := congrArg List.length hd; simp at this; omega
    have hi2 : decide (i < (p.getD []).length) = false := df hi
    rw [Wloop]
    conv => arg 1; arg 1; arg 1; simp [loopAt, loopIn, headId, Try.f4, s2, s10, h0, hi2, -getElem?_pos]
    exact he (by simp) _ (by simp [s2]) (by simp [s5]) (by simp [s7])
  | cons g rest ih =>
    intro i σ hd s2 s5 s7 s10 hh hf he
    obtain ⟨hg1, hd1, hi⟩ := drop_get hd
    have hlt : decide (i < (p.getD []).length) = true := dt hi
    have hw : IntKind.i64.wrap ((i : Int) + 1) = ((i + 1 : Nat) : Int) := wr (by omega) (by omega)
    rw [Wloop]
    conv => arg 1; arg 1; arg 1; simp [loopAt, loopIn, headId, Try.f4, s2, s10, h0, hlt, -getElem?_pos]
    simp only [Option.bind_assoc]
    refine vl_in p a s h0 o e h1 i g hg1 (hcl g (List.mem_of_getElem? hg1)) _ Q g.c 0 _ (by simp) (by simp [s2]) (by simp [s5]) (by simp [s7]) (by simp [s10]) (by simp) (hh g (by simp)) (fun σ' h6 => ?_) (fun hn σ' e1 e2 e3 e4 => ?_)
    · simp
      exact hf σ' h6
    · simp [e4, hw]
      refine ih (i + 1) _ hd1 (by simp [e1]) (by simp [e2]) (by simp [e3]) (by simp) (fun x hx => hh x (by simp [hx])) hf (fun hn2 σ2 g1 g2 g3 => he (fun y hy => ?_) σ2 g1 g2 g3)
      rcases List.mem_cons.1 hy with rfl | hy
      · exact hn
      · exact hn2 y hy
end
theorem new_none {p : List Fu} {a : List Vl} {s : Int} (h : ¬ (mayP p = true ∧ isS s = true ∧ (∃ x, p[0]? = some x ∧ x.arity ≤ x.locals ∧ (a.length : Int) = x.arity) ∧ a.all Vl.may = true)) : newF p 0 a s = none := by
  cases hn : newF p 0 a s with
  | none => rfl
  | some f =>
    exfalso
    apply h
    unfold newF at hn
    split at hn
    · rename_i h1
      split at hn
      · cases hn
      · rename_i x hx
        split at hn
        · rename_i h2
          exact ⟨h1.1, h1.2.2.2, ⟨x, hx, h2.1, h2.2.1⟩, h2.2.2⟩
        · cases hn
    · cases hn
theorem evS_none {p : List Fu} {a : List Vl} {s n : Int} (h : newF p 0 a s = none) : evS p a s n = (o0, 0, 1) := by
  unfold evS
  rw [h]; simp
theorem evS_nogood {p : List Fu} {a : List Vl} {s n : Int} (h : good p = false) : evS p a s n = (o0, 0, 1) := by
  unfold evS
  rw [h]; simp
set_option maxHeartbeats 4000000 in
theorem value10_law (p : Option (List Fu)) (a : Option (List Vl)) (s n : Int) (hb : Bnd (p.getD [])) (hcl : ∀ g ∈ p.getD [], g.c.length < 2 ^ 62) : fnc Try.prog cfgE RE 4 [.agg [encProg p, encL 2 encV a, I s], I n] = some (.bool true) := by
  have hS := small10_spec p a s
  have hI := up (rIs_spec s)
  have hG := up (rgood_spec p hb)
  rw [fnc_at (cfgE_ext rfl), body_eq Try.func4 rfl rfl]
  cases k1 : (small (p.getD []) 300 && decide ((a.getD []).length ≤ 40))
  · rw [k1] at hS
    simp [argsσ, Vm.results, hS, fixed10, -getElem?_pos]
  rw [k1] at hS
  cases k2 : decide (n < 1)
  case true => simp [argsσ, Vm.results, hS, fixed10, k2, of_decide_eq_true k2, -getElem?_pos]
  cases k3 : decide (3000 < n)
  case true => simp [argsσ, Vm.results, hS, fixed10, k2, of_decide_eq_false k2, k3, of_decide_eq_true k3, -getElem?_pos]
  simp only [Bool.and_eq_true, decide_eq_true_eq] at k1
  have hl := small_len k1.1
  have hl63 : (p.getD []).length < 2 ^ 63 := by omega
  have ha62 : (a.getD []).length < 2 ^ 62 := by have := k1.2; omega
  have k2' := of_decide_eq_false k2
  have k3' := of_decide_eq_false k3
  have hdr := drE dr4_4
  simp [opsAt, opsIn, Try.f4] at hdr
  have hdw := Wdraw hdr
  clear hdr
  cases c1 : good (p.getD [])
  · rw [c1] at hG
    have he := evS_nogood (a := a.getD []) (s := s) (n := n) c1
    have f1 := eval_at hl63 ha62 he
    simp [argsσ, hS, fixed10, k2, k2', k3, k3', f1, hG, hdw, logL, loud, isE, drawChk, Option.bind_assoc, o0, v0, -getElem?_pos]
    refine vl_args p a s (by rfl) ha62 _ (fun o => o = some _) (a.getD []) 0 false _ (by simp) (by simp) (by simp) (by simp) (fun σ' e1 e2 e3 e4 => ?_)
    rw [Bool.false_and] at e4
    simp [e1, e2, e3, e4, Vm.results, -getElem?_pos]
  rw [c1] at hG
  have hmay := (good_iff.1 c1).1
  have hlen : 0 < (p.getD []).length := by
    unfold mayP at hmay
    simp only [Bool.and_eq_true, decide_eq_true_eq] at hmay
    omega
  have hx0 : (p.getD [])[0]? = some (p.getD [])[0] := List.getElem?_eq_getElem hlen
  generalize (p.getD [])[0] = x0 at hx0
  obtain ⟨har, _, _⟩ := (good_iff.1 c1).2 x0 (List.mem_of_getElem? hx0)
  have ix0 : idxD (p.getD []).length (I 0) = some 0 := idxD_nat .i64 hlen
  have dl : decide (0 < (p.getD []).length) = true := dt hlen
  cases c2 : isS s
  · rw [c2] at hI
    have he : evS (p.getD []) (a.getD []) s n = (o0, 0, 1) := evS_none (new_none fun h => by rw [c2] at h; exact absurd h.2.1 (by decide))
    have f1 := eval_at hl63 ha62 he
    simp [argsσ, hS, fixed10, k2, k2', k3, k3', f1, hG, hI, ix0, dl, hlen, hx0, hdw, logL, loud, isE, drawChk, Option.bind_assoc, o0, v0, -getElem?_pos]
    refine vl_args p a s (by rfl) ha62 _ (fun o => o = some _) (a.getD []) 0 false _ (by simp) (by simp) (by simp) (by simp) (fun σ' e1 e2 e3 e4 => ?_)
    rw [Bool.false_and] at e4
    simp [e1, e2, e3, e4, Vm.results, -getElem?_pos]
  rw [c2] at hI
  cases c3 : decide (((a.getD []).length : Int) = x0.arity)
  · have he : evS (p.getD []) (a.getD []) s n = (o0, 0, 1) := evS_none (new_none fun h => by
      obtain ⟨_, _, ⟨x, hx, _, h4⟩, _⟩ := h
      rw [hx0] at hx; cases hx
      exact of_decide_eq_false c3 h4)
    have f1 := eval_at hl63 ha62 he
    simp [argsσ, hS, fixed10, k2, k2', k3, k3', f1, hG, hI, ix0, dl, hlen, hx0, c3, hdw, logL, loud, isE, drawChk, Option.bind_assoc, o0, v0, -getElem?_pos]
    refine vl_args p a s (by rfl) ha62 _ (fun o => o = some _) (a.getD []) 0 false _ (by simp) (by simp) (by simp) (by simp) (fun σ' e1 e2 e3 e4 => ?_)
    rw [Bool.false_and] at e4
    simp [e1, e2, e3, e4, Vm.results, -getElem?_pos]
  have c3' := of_decide_eq_true c3
  obtain ⟨o, c, e, he⟩ : ∃ o c e, evS (p.getD []) (a.getD []) s n = (o, c, e) := ⟨_, _, _, rfl⟩
  have f1 := eval_at hl63 ha62 he
  simp [argsσ, hS, fixed10, k2, k2', k3, k3', f1, hG, hI, ix0, dl, hlen, hx0, c3, hdw, logL, loud, isE, drawChk, Option.bind_assoc, -getElem?_pos]
  refine vl_args p a s (by rfl) ha62 _ (fun o => o = some _) (a.getD []) 0 true _ (by simp) (by simp) (by simp) (by simp) (fun σ' e1 e2 e3 e4 => ?_)
  rw [Bool.true_and] at e4
  simp at e2 e3
  cases c4 : (a.getD []).all Vl.may
  · have he2 : evS (p.getD []) (a.getD []) s n = (o0, 0, 1) := evS_none (new_none fun h => by rw [c4] at h; exact absurd h.2.2.2 (by decide))
    rw [he] at he2
    cases he2
    rw [c4] at e4
    simp [e1, e2, e3, e4, Vm.results, -getElem?_pos]
  rw [c4] at e4
  have hnew : ∃ f, newF (p.getD []) 0 (a.getD []) s = some f := by
    unfold newF
    rw [if_pos ⟨hmay, by decide, by omega, c2⟩, show Int.toNat 0 = 0 from rfl, hx0]
    simp only
    rw [if_pos ⟨har, c3', c4⟩]
    exact ⟨_, rfl⟩
  have hcode : ∀ g ∈ p.getD [], ∀ x ∈ g.c, x.op = 16 → 16 ≤ x.a := fun g hg x hx h16 => by
    have hi := imay_iff.1 (imay_all c1 hg hx)
    have h3 := hi.2.2.1
    unfold leastA at h3
    rw [if_pos h16] at h3
    exact h3
  have hcase : (e = 100 ∧ o = o0) ∨ (e = 0 ∧ OuOk (p.getD []) o) := by
    rcases ev_cases (p.getD []) (a.getD []) s n with e' | ⟨_, m1, m2, f', hf', _, ⟨_, e'⟩ | ⟨o', q', _, _, ho, e'⟩⟩
    · exfalso
      obtain ⟨f, hf⟩ := hnew
      have := ev_of (n := n.toNat) c1 hf (by omega) (by omega)
      rw [show ((n.toNat : Nat) : Int) = n by omega, e'] at this
      have a2 := congrArg (fun x : Ou × Nat × Int => x.2.2) this
      simp only at a2
      split at a2 <;> simp at a2
    · rw [he] at e'; cases e'; exact .inl ⟨rfl, rfl⟩
    · rw [he] at e'
      have a1 := congrArg (fun x : Ou × Nat × Int => x.1) e'
      have a2 := congrArg (fun x : Ou × Nat × Int => x.2.2) e'
      simp only at a1 a2
      exact .inr ⟨a2, by rw [a1]; exact ho⟩
  simp [e1, e4, Option.bind_assoc, -getElem?_pos]
  refine vl_out p a s (o := o) (e := e) (by simp) (by simp) (by omega) hcl _ (fun o => o = some _) (p.getD []) 0 _ (by simp) (by simp [e1]) (by simp [e2]) (by simp [e3]) (by simp) (fun g hg x hx h16 ht => ?_) (fun σ' h6 => ?_) (fun hn σ' g1 g2 g3 => ?_)
  · have hge := hcode g hg x hx h16
    rcases hcase with ⟨rfl, rfl⟩ | ⟨rfl, h⟩
    · have : (o0 : Ou).trap = 0 := rfl
      omega
    · refine ⟨rfl, ?_⟩
      rcases h.2 with h | h
      · omega
      · exact h.1
  · simp [h6, Vm.results]
  · rcases hcase with ⟨rfl, rfl⟩ | ⟨rfl, h⟩
    · simp [g1, g2, g3, Vm.results, -getElem?_pos]
    · have hv := up (rMay_spec o.v)
      rw [h.1] at hv
      rcases h.2 with h2 | ⟨h2, h3⟩
      · have d0 : decide (o.trap = 0) = true := dt h2
        simp [g1, g2, g3, Vm.results, h2, d0, hv, -getElem?_pos]
      · rcases h3 with h3 | h3 | ⟨x, hx, y, hy, y1, y2⟩
        · simp [g1, g2, g3, Vm.results, h3, h2, v0, -getElem?_pos]
        · simp [g1, g2, g3, Vm.results, h3, h2, v0, -getElem?_pos]
        · exact absurd y2.symm (hn x hx y hy y1)
end Go.Proofs.YtlpadffinfijgaaW.Rg
