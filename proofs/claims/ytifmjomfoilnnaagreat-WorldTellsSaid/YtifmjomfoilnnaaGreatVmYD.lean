/- What is wrong with a program. No conditions. -/
import Derived.Test.YtifmjomfoilnnaaGreatVmYC
set_option linter.unusedVariables false
set_option linter.unusedSimpArgs false
set_option maxRecDepth 10000
namespace Go.Proofs.YtifmjomfoilnnaaGreatW.Rg
open Go.Proofs.YtifmjomfoilnnaaGreatW.Vm Go.Proofs.YtifmjomfoilnnaaGreatW.Md
open Go Go.Proofs
theorem Ck.app2 {H p f ck di ni ds dn pl} {a : Ob} (h : Ck (H ++ [a]) p f ck di ni ds dn pl) (b : Ob) : Ck (H ++ [a, b]) p f ck di ni ds dn pl := by
  have e := h.app [b]
  rw [List.append_assoc] at e
  exact e
/-- a program whose functions may be, told by its code -/
theorem fm_safe {p : List Fu} (hm : mayP p = true) {f : Fu} (hf : f ∈ p) (h : ∀ x ∈ f.c, fieldE p.length f x = 0) : Safe p f.c ∧ Jumps f.c := by
  have hfm := mayP_f hm hf
  refine ⟨⟨fun g hg => ⟨(fmay_head (mayP_f hm hg)).1, (fmay_head (mayP_f hm hg)).2.1⟩, fmay_all hfm, fun x hx h13 => (fieldE_spawn (h x hx) h13).2, (fmay_len hfm).2⟩, fun x hx ho => ?_⟩
  have e := h x hx
  unfold fieldE at e
  rw [if_neg (by omega), if_neg (by omega), if_neg (by omega), if_pos ho] at e
  split at e <;> omega
theorem cfields_loop (p : Option (List Fu)) (f : Fu) (h200 : f.c.length ≤ 200) (ck di ni : Nat) (ds : List Int) (dn : List Bool) {X : Type} (K : Ex × St → Option X) (Q : Option X → Prop) : ∀ (rest : List Instr) (i : Nat) (H : List Ob) (pl : Int) (σ : Nat → D), f.c.drop i = rest → Ck H p f ck di ni ds dn pl →
    σ 0 = .ptr ck 0 0 0 → σ 21 = encCode f.code → σ 22 = I f.c.length → σ 23 = I i →
    (∀ σ' H' (j : Nat) e, firstE (p.getD []).length f i rest = some (j, e) → Ck H' p f ck di ni ds dn j → σ' 2 = I e → Q (K (.ret, ⟨σ', H', 41⟩))) →
    (∀ σ' H' pl', firstE (p.getD []).length f i rest = none → Ck H' p f ck di ni ds dn pl' → σ' 0 = .ptr ck 0 0 0 → Q (K (.exit 0, ⟨σ', H', 41⟩))) →
    Q ((W Tryz.prog cfg (.loop (loopAt Tryz.f62 4)) ⟨σ, H, 41⟩).bind K) := by
  intro rest
  induction rest with
  | nil =>
    intro i H pl σ hd hk s0 s21 s22 s23 hr1 he
    have hi : ¬ (i < f.c.length) := by have := congrArg List.length hd; simp at this; omega
    rw [Wloop]
    conv => arg 1; arg 1; arg 1; simp [loopAt, loopIn, headId, Tryz.f62, s22, s23, hi]
    exact he _ H pl rfl hk (by simp [s0])
  | cons y rest ih =>
    intro i H pl σ hd hk s0 s21 s22 s23 hr1 he
    obtain ⟨hg1, hd1, hi⟩ := drop_get hd
    have hlt : decide (i < f.c.length) = true := dt hi
    have hg' : (f.code.getD [])[i]? = some y := hg1
    have hx : idxD (f.code.getD []).length (D.int .i64 (i : Int)) = some i := idxD_nat .i64 hi
    have hw : IntKind.i64.wrap ((i : Int) + 1) = ((i + 1 : Nat) : Int) := wr (by omega) (by omega)
    have C1 := hk.app [⟨0, 3, [encInstr y], 0⟩]
    have kc1 := C1.c
    have lc := get_some_lt hk.c
    have C2 := C1.setC i
    have C3 : Ck (H.set ck ⟨0, 8, [encC p f di ni f.c.length i], 0⟩ ++ [⟨0, 3, [encInstr y], 0⟩]) p f ck di ni ds dn i := by rw [← set_lt lc]; exact C2
    have g2 : ∀ t, (H.set ck ⟨0, 8, [encC p f di ni f.c.length i], 0⟩ ++ t)[H.length]? = t[0]? := fun t => by
      have := get_app0 (h := H.set ck ⟨0, 8, [encC p f di ni f.c.length i], 0⟩) (l := t) rfl
      rw [List.length_set] at this; exact this
    have sl : ∀ t o, (H ++ t).set ck o = H.set ck o ++ t := fun t o => set_lt lc o
    have hF := cfield_spec p f y C3.c
    unfold firstE at hr1 he
    generalize hE : fieldE (p.getD []).length f y = e at *
    cases c1 : decide (e = 0)
    · rw [if_neg (of_decide_eq_false c1)] at hr1
      rw [Wloop]
      conv => arg 1; arg 1; arg 1; simp [loopAt, loopIn, headId, Tryz.f62, s0, s21, s22, s23, hlt, hx, hg', op_nilp, kc1, sl, g2, hF, c1]
      exact hr1 _ _ i e rfl (C3.app2 ⟨0, 3, [encInstr y], 0⟩) (by simp)
    · rw [if_pos (of_decide_eq_true c1)] at hr1 he
      rw [Wloop]
      conv => arg 1; arg 1; arg 1; simp [loopAt, loopIn, headId, Tryz.f62, s0, s21, s22, s23, hlt, hx, hg', op_nilp, kc1, sl, g2, hF, c1, hw]
      rw [Option.bind_some, loopK_normal]
      exact ih (i + 1) _ i _ hd1 (C3.app2 ⟨0, 3, [encInstr y], 0⟩) (by simp [s0]) (by simp [s21]) (by simp [s22]) (by simp) hr1 he
theorem ccheck_spec (p : Option (List Fu)) (hm : mayP (p.getD []) = true) (f : Fu) (hf : f ∈ p.getD []) (ck di ni : Nat) (H : List Ob) (hC : Ck H p f ck di ni (List.replicate f.c.length (-1)) (List.replicate f.c.length false) 0) (Q : Option (D × List Ob) → Prop)
    (q1 : ∀ H' ds' dn', (funcE (p.getD []) f).2 ≠ 0 → Ck H' p f ck di ni ds' dn' (funcE (p.getD []) f).1 → Q (some (I (funcE (p.getD []) f).2, H')))
    (q2 : ∀ H', (funcE (p.getD []) f).2 = 0 → Q (some (I 0, H'))) :
    Q (body Tryz.prog R 62 [.ptr ck 0 0 0] H) := by
  have hfm := mayP_f hm hf
  have hl := fmay_len hfm
  have kc := hC.c
  have hd := dr62_1
  simp [opsAt, opsIn, Tryz.f62] at hd
  have hdw := Wdraw0 hd
  clear hd
  have hcl : (f.code.getD []).length = f.c.length := rfl
  rw [body_eq Tryz.func62 rfl rfl]
  unfold funcE at q1 q2
  cases c0 : decide (f.locals < f.arity)
  · rw [if_neg (of_decide_eq_false c0)] at q1 q2
    simp [argsσ, hdw, kc, op_nilp, c0, Option.bind_assoc, hcl]
    refine cfields_loop p f hl.2 ck di ni _ _ _ Q f.c 0 H 0 _ (by simp) hC (by simp [argsσ]) (by simp) (by simp) (by simp) ?_ ?_
    · intro σ' H' j e hE hk h2
      rw [hE] at q1
      simp [h2, Vm.results]
      exact q1 H' _ _ (firstE_some hE) hk
    · intro σ' H' pl' hE hk h0
      rw [hE] at q1 q2
      obtain ⟨hs, hj⟩ := fm_safe hm hf (firstE_none.1 hE)
      simp [h0, Option.bind_assoc]
      refine creach_spec p f hs hj hl.1 ck di ni pl' H' hk (fun o => Q (o.bind _)) ?_ ?_
      · intro H2 ds2 dn2 a e hR hk2
        rw [hR] at q1
        simp [Vm.results]
        exact q1 H2 ds2 dn2 (reachN_err hR) hk2
      · intro H2 ds2 dn2 a hR hl2 hk2
        rw [hR] at q2
        simp [Vm.results]
        exact q2 H2 rfl
  · rw [if_pos (of_decide_eq_true c0)] at q1
    simp [argsσ, hdw, kc, op_nilp, c0, Vm.results]
    exact q1 H _ _ (by decide) hC
theorem ccheck_loop (p : Option (List Fu)) (hm : mayP (p.getD []) = true) {X : Type} (K : Ex × St → Option X) (Q : Option X → Prop) : ∀ (rest : List Fu) (i : Nat) (H : List Ob) (σ : Nat → D), (p.getD []).drop i = rest →
    σ 0 = encProg p → σ 11 = encProg p → σ 12 = I (p.getD []).length → σ 13 = I i →
    (∀ σ' H', (goE (p.getD []) i rest).2.2 ≠ 0 → σ' 2 = I (goE (p.getD []) i rest).1 → σ' 3 = I (goE (p.getD []) i rest).2.1 → σ' 4 = I (goE (p.getD []) i rest).2.2 → Q (K (.ret, ⟨σ', H', 30⟩))) →
    (∀ σ' H', goE (p.getD []) i rest = (0, 0, 0) → Q (K (.exit 0, ⟨σ', H', 30⟩))) →
    Q ((W Tryz.prog cfg (.loop (loopAt Tryz.f32 4)) ⟨σ, H, 30⟩).bind K) := by
  have hpl : (p.getD []).length ≤ 16 := by unfold mayP at hm; simp only [Bool.and_eq_true, decide_eq_true_eq] at hm; omega
  intro rest
  induction rest with
  | nil =>
    intro i H σ hd s0 s11 s12 s13 hr1 he
    have hi : ¬ (i < (p.getD []).length) := by have := congrArg List.length hd; simp at this; omega
    rw [Wloop]
    conv => arg 1; arg 1; arg 1; simp [loopAt, loopIn, headId, Tryz.f32, s12, s13, hi]
    exact he _ H rfl
  | cons f rest ih =>
    intro i H σ hd s0 s11 s12 s13 hr1 he
    obtain ⟨hg1, hd1, hi⟩ := drop_get hd
    have hlt : decide (i < (p.getD []).length) = true := dt hi
    have hw : IntKind.i64.wrap ((i : Int) + 1) = ((i + 1 : Nat) : Int) := wr (by omega) (by omega)
    have hfm := List.mem_of_getElem? hg1
    have hl := fmay_len (mayP_f hm hfm)
    have hN := newc_spec p i f hg1 hl.1 hl.2 H
    have hdr := dr32_9
    simp [opsAt, opsIn, Tryz.f32] at hdr
    have hdw := Wdraw0 hdr
    clear hdr
    unfold goE at hr1 he
    rw [Wloop]
    conv => arg 1; arg 1; arg 1; simp [loopAt, loopIn, headId, Tryz.f32, s0, s11, s12, s13, hlt, hN, -List.map_replicate]
    simp only [Option.bind_assoc]
    refine ccheck_spec p hm f hfm (H.length + 3) (H.length + 1) (H.length + 2) _ ⟨by rw [get_app rfl]; rfl, by rw [get_app rfl]; rfl, by rw [get_app rfl]; rfl, by omega, by omega, by omega⟩ (fun o => Q (o.bind _)) ?_ ?_
    · intro H' ds' dn' hne hk
      rw [if_neg hne] at hr1
      have hd0 : decide ((funcE (p.getD []) f).2 = 0) = false := df hne
      have kc := hk.c
      simp [hd0, hdw, kc, op_nilp]
      exact hr1 _ _ hne (by simp) (by simp) (by simp)
    · intro H' h0
      rw [if_pos h0] at hr1 he
      simp [s0, s11, s12, s13, hw]
      exact ih (i + 1) _ _ hd1 (by simp [s0]) (by simp [s11]) (by simp [s12]) (by simp) hr1 he
theorem check_spec (p : Option (List Fu)) (hl : (p.getD []).length < 2 ^ 63) : fnc Tryz.prog cfg R 32 [encProg p] = some (.tup [I (check (p.getD [])).1, I (check (p.getD [])).2.1, I (check (p.getD [])).2.2]) := by
  have hM := may_spec p hl
  rw [fnc_at rfl, body_eq Tryz.func32 rfl rfl]
  unfold check
  cases hm : mayP (p.getD []) with
  | false =>
    rw [hm] at hM
    simp [argsσ, Vm.results, hM]
  | true =>
    rw [hm] at hM
    rw [if_pos rfl]
    simp [argsσ, hM, Option.bind_assoc]
    refine ccheck_loop p hm _ (fun o => o = some _) (p.getD []) 0 [] _ (by simp) (by simp [argsσ]) (by simp [argsσ]) (by simp) (by simp) ?_ ?_
    · intro σ' H' h0 h2 h3 h4
      simp [h2, h3, h4, Vm.results]
    · intro σ' H' h0
      simp [Vm.results, h0]
theorem rfields_loop (p : Option (List Fu)) (f : Fu) (h200 : f.c.length ≤ 200) {X : Type} (K : Ex × St → Option X) (Q : Option X → Prop) : ∀ (rest : List Instr) (i : Nat) (σ : Nat → D), f.c.drop i = rest →
    σ 0 = encProg p → σ 3 = .ptr 0 0 0 0 → σ 6 = I i →
    (∀ σ' (j : Nat) e, firstE (p.getD []).length f i rest = some (j, e) → σ' 4 = I j → σ' 5 = I e → Q (K (.ret, ⟨σ', [⟨0, 4, [encFunc f], 0⟩], 44⟩))) →
    (∀ σ', firstE (p.getD []).length f i rest = none → σ' 0 = encProg p → σ' 3 = .ptr 0 0 0 0 → Q (K (.exit 0, ⟨σ', [⟨0, 4, [encFunc f], 0⟩], 44⟩))) →
    Q ((W Tryz.prog cfg (.loop (loopAt Tryz.f84 4)) ⟨σ, [⟨0, 4, [encFunc f], 0⟩], 44⟩).bind K) := by
  intro rest
  induction rest with
  | nil =>
    intro i σ hd s0 s3 s6 hr1 he
    have hi : ¬ (i < (f.code.getD []).length) := by have := congrArg List.length hd; simp at this; exact Nat.not_lt.2 (Nat.le_of_sub_eq_zero this)
    rw [Wloop]
    conv => arg 1; arg 1; arg 1; simp [loopAt, loopIn, headId, Tryz.f84, s3, s6, hi]
    exact he _ rfl (by simp [s0]) (by simp [s3])
  | cons y rest ih =>
    intro i σ hd s0 s3 s6 hr1 he
    obtain ⟨hg1, hd1, hi⟩ := drop_get hd
    have hi' : i < (f.code.getD []).length := hi
    have hlt : decide (i < (f.code.getD []).length) = true := dt hi
    have hg' : (f.code.getD [])[i]? = some y := hg1
    have hx : idxD (f.code.getD []).length (D.int .i64 (i : Int)) = some i := idxD_nat .i64 hi
    have hw : IntKind.i64.wrap ((i : Int) + 1) = ((i + 1 : Nat) : Int) := wr (by omega) (by omega)
    have hF := rfield_spec p f y
    have hd := dr84_6
    simp [opsAt, opsIn, Tryz.f84] at hd
    have hdw := Wdraw0 hd
    clear hd
    unfold firstE at hr1 he
    generalize hE : fieldE (p.getD []).length f y = e at *
    cases c1 : decide (e = 0)
    · rw [if_neg (of_decide_eq_false c1)] at hr1
      rw [Wloop]
      conv => arg 1; arg 1; arg 1; simp [loopAt, loopIn, headId, Tryz.f84, s0, s3, s6, hlt, hx, hg', hdw, hF, c1]
      exact hr1 _ i e rfl (by simp) (by simp)
    · rw [if_pos (of_decide_eq_true c1)] at hr1 he
      rw [Wloop]
      conv => arg 1; arg 1; arg 1; simp [loopAt, loopIn, headId, Tryz.f84, s0, s3, s6, hlt, hx, hg', hdw, hF, c1, hw]
      rw [Option.bind_some, loopK_normal]
      exact ih (i + 1) _ hd1 (by simp [s0]) (by simp [s3]) (by simp) hr1 he
theorem rfunction_spec (p : Option (List Fu)) (hm : mayP (p.getD []) = true) (f : Fu) (hf : f ∈ p.getD []) : ∃ a, fnc Tryz.prog cfg R 84 [encProg p, encFunc f] = some (.tup [I a, I (funcE (p.getD []) f).2]) ∧ ((funcE (p.getD []) f).2 ≠ 0 → a = (funcE (p.getD []) f).1) := by
  have hfm := mayP_f hm hf
  have hl := fmay_len hfm
  have main : (fun o : Option D => ∃ a, o = some (.tup [I a, I (funcE (p.getD []) f).2]) ∧ ((funcE (p.getD []) f).2 ≠ 0 → a = (funcE (p.getD []) f).1)) (fnc Tryz.prog cfg R 84 [encProg p, encFunc f]) := by
    rw [fnc_at rfl, body_eq Tryz.func84 rfl rfl]
    cases c0 : decide (f.locals < f.arity)
    · simp [argsσ, c0, Option.bind_assoc]
      refine rfields_loop p f hl.2 _ (fun o : Option D => ∃ a, o = some (.tup [I a, I (funcE (p.getD []) f).2]) ∧ (¬ (funcE (p.getD []) f).2 = 0 → a = (funcE (p.getD []) f).1)) f.c 0 _ (by simp) (by simp [argsσ]) (by simp) (by simp) ?_ ?_
      · intro σ' j e hE h4 h5
        have e1 : funcE (p.getD []) f = ((j : Int), e) := by unfold funcE; rw [if_neg (of_decide_eq_false c0), hE]
        simp [h4, h5, Vm.results, e1]
      · intro σ' hE h0 h3
        obtain ⟨hs, hj⟩ := fm_safe hm hf (firstE_none.1 hE)
        have hR := rreach_spec p f hs hl.1
        have e1 : funcE (p.getD []) f = match reach (shapes (p.getD []) f.c) with | .inl r => r | .inr _ => (0, 0) := by unfold funcE; rw [if_neg (of_decide_eq_false c0), hE]; rfl
        rw [e1]
        cases hr : reach (shapes (p.getD []) f.c) with
        | inl r =>
          obtain ⟨a, e⟩ := r
          rw [hr] at hR
          obtain ⟨ds, hR⟩ := hR
          simp [h0, h3, hR, Vm.results]
        | inr d =>
          rw [hr] at hR
          simp [h0, h3, hR, Vm.results]
    · have e1 : funcE (p.getD []) f = (0, 80) := by unfold funcE; rw [if_pos (of_decide_eq_true c0)]
      simp [argsσ, c0, Vm.results, e1]
  exact main
theorem rcheck_loop (p : Option (List Fu)) (hm : mayP (p.getD []) = true) {X : Type} (K : Ex × St → Option X) (Q : Option X → Prop) : ∀ (rest : List Fu) (i : Nat) (σ : Nat → D), (p.getD []).drop i = rest →
    σ 0 = encProg p → σ 5 = I i →
    (∀ σ', (goE (p.getD []) i rest).2.2 ≠ 0 → σ' 2 = I (goE (p.getD []) i rest).1 → σ' 3 = I (goE (p.getD []) i rest).2.1 → σ' 4 = I (goE (p.getD []) i rest).2.2 → Q (K (.ret, ⟨σ', [], 31⟩))) →
    (∀ σ', goE (p.getD []) i rest = (0, 0, 0) → Q (K (.exit 0, ⟨σ', [], 31⟩))) →
    Q ((W Tryz.prog cfg (.loop (loopAt Tryz.f54 4)) ⟨σ, [], 31⟩).bind K) := by
  have hpl : (p.getD []).length ≤ 16 := by unfold mayP at hm; simp only [Bool.and_eq_true, decide_eq_true_eq] at hm; omega
  intro rest
  induction rest with
  | nil =>
    intro i σ hd s0 s5 hr1 he
    have hi : ¬ (i < (p.getD []).length) := by have := congrArg List.length hd; simp at this; omega
    rw [Wloop]
    conv => arg 1; arg 1; arg 1; simp [loopAt, loopIn, headId, Tryz.f54, s0, s5, hi]
    exact he _ rfl
  | cons f rest ih =>
    intro i σ hd s0 s5 hr1 he
    obtain ⟨hg1, hd1, hi⟩ := drop_get hd
    have hlt : decide (i < (p.getD []).length) = true := dt hi
    have hx := idxD_nat .i64 hi
    have hw : IntKind.i64.wrap ((i : Int) + 1) = ((i + 1 : Nat) : Int) := wr (by omega) (by omega)
    obtain ⟨a, hF, ha⟩ := rfunction_spec p hm f (List.mem_of_getElem? hg1)
    unfold goE at hr1 he
    cases c1 : decide ((funcE (p.getD []) f).2 = 0)
    · have h1 := of_decide_eq_false c1
      rw [if_neg h1] at hr1
      rw [ha h1] at hF
      rw [Wloop]
      conv => arg 1; arg 1; arg 1; simp [loopAt, loopIn, headId, Tryz.f54, s0, s5, hlt, hx, hg1, hF, c1]
      exact hr1 _ h1 (by simp) (by simp) (by simp)
    · rw [if_pos (of_decide_eq_true c1)] at hr1 he
      rw [Wloop]
      conv => arg 1; arg 1; arg 1; simp [loopAt, loopIn, headId, Tryz.f54, s0, s5, hlt, hx, hg1, hF, c1, hw]
      rw [Option.bind_some, loopK_normal]
      exact ih (i + 1) _ hd1 (by simp [s0]) (by simp) hr1 he
theorem rcheck_spec (p : Option (List Fu)) (hb : Bnd (p.getD [])) : fnc Tryz.prog cfg R 54 [encProg p] = some (.tup [I (check (p.getD [])).1, I (check (p.getD [])).2.1, I (check (p.getD [])).2.2]) := by
  have hM := rmay7_spec p hb
  rw [fnc_at rfl, body_eq Tryz.func54 rfl rfl]
  unfold check
  cases hm : mayP (p.getD []) with
  | false =>
    rw [hm] at hM
    simp [argsσ, Vm.results, hM]
  | true =>
    rw [hm] at hM
    rw [if_pos rfl]
    simp [argsσ, hM, Option.bind_assoc]
    refine rcheck_loop p hm _ (fun o => o = some _) (p.getD []) 0 _ (by simp) (by simp [argsσ]) (by simp) ?_ ?_
    · intro σ' h0 h2 h3 h4
      simp [h2, h3, h4, Vm.results]
    · intro σ' h0
      simp [Vm.results, h0]
theorem rgood_spec (p : Option (List Fu)) (hb : Bnd (p.getD [])) : fnc Tryz.prog cfg R 22 [encProg p] = some (.bool (good (p.getD []))) := by
  have hC := rcheck_spec p hb
  rw [fnc_at rfl, body_eq Tryz.func22 rfl rfl]
  unfold good
  simp [argsσ, Vm.results, hC]
  rfl
end Go.Proofs.YtifmjomfoilnnaaGreatW.Rg
