/- A frame of a program with which nothing is wrong never ends for want of a value, of room, or of a place: the law. No conditions. -/
import Derived.Test.YtghidjgejmmcmaaVmL9d
set_option linter.unusedVariables false
set_option linter.unusedSimpArgs false
namespace Go.Proofs.YtghidjgejmmcmaaW.Rg
open Go.Proofs.YtghidjgejmmcmaaW.Vm Go.Proofs.YtghidjgejmmcmaaW.Md
open Go Go.Proofs
/-- what stays in the registers of the law's loop -/
structure SReg (σ : Nat → D) (p : Option (List Fu)) (l : Option (List Ou)) (ds : List Int) (q : Nat) : Prop where
  r0 : σ 0 = encProg p
  r2 : σ 2 = encL 3 encO l
  r9 : σ 9 = .ptr q 0 0 0
  r11 : σ 11 = encL 1 I (some ds)
set_option maxHeartbeats 4000000 in
theorem safe_loop (p : Option (List Fu)) (hg : good (p.getD []) = true) (hcl : ∀ g ∈ p.getD [], g.c.length < 2 ^ 62) (hpl : (p.getD []).length < 2 ^ 63) (n : Nat) (x : Fu) (hx : (p.getD [])[n]? = some x) (l : Option (List Ou)) (hl : (l.getD []).length ≤ 100) (q : Nat)
    {X : Type} (K : Ex × St → Option X) (Q : Option X → Prop) (hK : ∀ σ' H', Q (K (.exit 2, ⟨σ', H', 180⟩))) : ∀ (m i : Nat) (f : Fr) (a b : Option (List Vl)) (z : Option (List Slt)) (σ : Nat → D) (H : List Ob), i + m = (l.getD []).length →
    SReg σ p l (depthsOf (p.getD []) x) q → σ 12 = I i → H[q]? = some ⟨0, 16, [frC f (encL 2 encV a) (encL 2 encV b) (encL 6 encSlt z)], 0⟩ → a.getD [] = f.stack → b.getD [] = f.locals → z.getD [] = f.slots →
    (f.state = 0 → SafeI n x (depthsOf (p.getD []) x) ((l.getD []).take i) f) →
    Q ((W Try.prog cfg (.loop (loopAt Try.f3 13)) ⟨σ, H, 180⟩).bind K) := by
  have exz : ∀ (h : List Ob) (z : Option (List Slt)), exp1 h (encL 6 encSlt z) = some (encL 6 encSlt z) := fun h z => exp_clean (by simp) (by simp)
  intro m
  induction m with
  | zero =>
    intro i f a b z σ H hi sr s12 hH ha hb hz hI
    have h0 : ¬ (i < (l.getD []).length) := by omega
    obtain ⟨r0, r2, r9, r11⟩ := sr
    rw [Wloop]
    conv => arg 1; arg 1; arg 1; simp [loopAt, loopIn, headId, Try.f3, r2, s12, h0]
    exact hK _ _
  | succ m ih =>
    intro i f a b z σ H hi sr s12 hH ha hb hz hI
    have hil : i < (l.getD []).length := by omega
    have hlt : decide (i < (l.getD []).length) = true := dt hil
    have hix := idxD_nat .i64 hil
    have hgo : (l.getD [])[i]? = some (l.getD [])[i] := List.getElem?_eq_getElem hil
    have hw : IntKind.i64.wrap ((i : Int) + 1) = ((i + 1 : Nat) : Int) := wr (by omega) (by omega)
    have htk : (l.getD []).take (i + 1) = (l.getD []).take i ++ [(l.getD [])[i]] := by rw [List.take_add_one, hgo]; rfl
    have hql := (List.getElem?_eq_some_iff.1 hH).1
    have hqa : ∀ t, (H ++ t)[q]? = some ⟨0, 16, [frC f (encL 2 encV a) (encL 2 encV b) (encL 6 encSlt z)], 0⟩ := fun t => by rw [get_lt hql, hH]
    obtain ⟨r0, r2, r9, r11⟩ := sr
    cases k0 : decide (f.state = 0)
    · rw [Wloop]
      conv => arg 1; arg 1; arg 1; simp [loopAt, loopIn, headId, Try.f3, r2, r9, s12, hlt, hH, k0, -getElem?_pos]
      exact hK _ _
    have I0 := hI (of_decide_eq_true k0)
    obtain ⟨n1, n2, n3⟩ := safe_len hg hx I0
    have hs := safe_step hg hx I0 (l.getD [])[i]
    obtain ⟨a', b', z', eS, q1, q2, q3⟩ := step_spec p f a b z ha hb hz (l.getD [])[i] (by omega) (by omega) (by omega) hcl hpl
    obtain ⟨m0, hm0⟩ : ∃ m0 : Nat, f.pc = m0 := ⟨f.pc.toNat, by have := I0.pc; omega⟩
    have hml : m0 < (depthsOf (p.getD []) x).length := by have := I0.pc; omega
    have hix2 := idxD_nat .i64 hml
    have hdp := I0.dep
    rw [hm0, Int.toNat_natCast] at hdp
    have hgd : (depthsOf (p.getD []) x)[m0]? = some (f.stack.length : Int) := by
      rw [List.getElem?_eq_getElem hml]
      rw [List.getD_eq_getElem?_getD, List.getElem?_eq_getElem hml] at hdp
      simpa using hdp
    have c1 : decide (f.pc < 0) = false := df (by omega)
    have c2 : decide (((depthsOf (p.getD []) x).length : Int) ≤ f.pc) = false := df (by omega)
    have hix2' : idxD (depthsOf (p.getD []) x).length (I f.pc) = some m0 := by rw [hm0]; exact hix2
    have al : (a.getD []).length = f.stack.length := by rw [ha]
    have d15 := dr3_15; have d17 := dr3_17
    simp [opsAt, opsIn, Try.f3] at d15 d17
    have w15 := Wdraw0 d15; have w17 := Wdraw0 d17
    clear d15 d17
    have hn : n < (p.getD []).length := (List.getElem?_eq_some_iff.1 hx).1
    generalize ho : (l.getD [])[i] = o at *
    unfold StepOk at hs
    generalize (stepF (p.getD []) f o).1 = g at *
    generalize (stepF (p.getD []) f o).2 = k at *
    have kk : (decide (k = 3) = false ∧ decide (k = 0) = false) ∧ ((decide (k = 4) = false ∧ True) ∨ (decide (k = 4) = true ∧ (told34 ((l.getD []).take i) = true ∨ (decide (g.out.trap = 3) = false ∧ decide (g.out.trap = 4) = false)))) := by
      rcases hs with ⟨e1, e2, e3⟩ | ⟨e1, _⟩
      · subst e1
        refine ⟨⟨rfl, rfl⟩, .inr ⟨rfl, ?_⟩⟩
        by_cases hh : g.out.trap = 3 ∨ g.out.trap = 4
        · left
          obtain ⟨s, hs1, hs2⟩ := e3 hh
          unfold told34
          rw [List.any_eq_true]
          refine ⟨s, hs1, ?_⟩
          rw [hs2]
          simpa using hh
        · right
          exact ⟨df (fun h => hh (.inl h)), df (fun h => hh (.inr h))⟩
      · exact ⟨⟨df (by omega), df (by omega)⟩, .inl ⟨df (by omega), trivial⟩⟩
    have hI' : g.state = 0 → SafeI n x (depthsOf (p.getD []) x) ((l.getD []).take (i + 1)) g := by
      intro h0
      rw [htk]
      rcases hs with ⟨_, e2, _⟩ | ⟨_, e2⟩
      · omega
      · exact e2
    clear hs
    obtain ⟨⟨kk1, kk2⟩, kk3⟩ := kk
    rw [Wloop]
    cases k1 : decide (o.trap = 3)
    · conv => arg 1; arg 1; arg 1; simp [loopAt, loopIn, headId, Try.f3, r0, r2, r9, r11, s12, hlt, hH, hqa, k0, c1, c2, hix, hix2', hgd, hgo, al, w15, w17, exz, eS, k1, -getElem?_pos]
      simp only [Option.bind_assoc]
      refine told_loop l i hil hl _ _ Q i 0 (decide (o.trap = 4)) _ (by omega) (by simp [r2]) (by simp [s12]) (by simp) (by simp) ?_
      intro σ' hσ h15
      have t0 : σ' 0 = encProg p := by rw [hσ 0 (by decide) (by decide) (by decide)]; simp [r0]
      have t2 : σ' 2 = encL 3 encO l := by rw [hσ 2 (by decide) (by decide) (by decide)]; simp [r2]
      have t9 : σ' 9 = .ptr q 0 0 0 := by rw [hσ 9 (by decide) (by decide) (by decide)]; simp [r9]
      have t11 : σ' 11 = encL 1 I (some (depthsOf (p.getD []) x)) := by rw [hσ 11 (by decide) (by decide) (by decide)]; simp [r11]
      have t12 : σ' 12 = I i := by rw [hσ 12 (by decide) (by decide) (by decide)]; simp [s12]
      have t13 : σ' 13 = .ptr H.length 0 0 0 := by rw [hσ 13 (by decide) (by decide) (by decide)]; simp
      have t14 : σ' 14 = I k := by rw [hσ 14 (by decide) (by decide) (by decide)]; simp
      clear hσ
      rw [List.drop_zero] at h15
      obtain ⟨T, hT⟩ : ∃ T, ((decide (o.trap = 4)) || told34 ((l.getD []).take i)) = T := ⟨_, rfl⟩
      rw [hT] at h15
      rcases kk3 with ⟨k4, _⟩ | ⟨k4, k5 | ⟨k5, k6⟩⟩
      · simp [t0, t2, t9, t11, t12, t13, t14, h15, kk1, kk2, k4, hqa, hql, gsA hql, stA hql, hw, blockK_exit, -getElem?_pos]
        exact ih (i + 1) g a' b' z' _ _ (by omega) ⟨by simp [t0], by simp [t2], by simp [t9], by simp [t11]⟩ (by simp) (gsA hql _ _) q1 q2 q3 hI'
      · have hT1 : T = true := by rw [← hT, k5]; simp
        subst hT1
        simp [t0, t2, t9, t11, t12, t13, t14, h15, kk1, kk2, k4, hqa, hql, gsA hql, stA hql, hw, blockK_exit, -getElem?_pos]
        exact ih (i + 1) g a' b' z' _ _ (by omega) ⟨by simp [t0], by simp [t2], by simp [t9], by simp [t11]⟩ (by simp) (gsA hql _ _) q1 q2 q3 hI'
      · cases T
        · simp [t0, t2, t9, t11, t12, t13, t14, h15, kk1, kk2, k4, k5, k6, hqa, hql, gsA hql, stA hql, hw, blockK_exit, -getElem?_pos]
          exact ih (i + 1) g a' b' z' _ _ (by omega) ⟨by simp [t0], by simp [t2], by simp [t9], by simp [t11]⟩ (by simp) (gsA hql _ _) q1 q2 q3 hI'
        · simp [t0, t2, t9, t11, t12, t13, t14, h15, kk1, kk2, k4, hqa, hql, gsA hql, stA hql, hw, blockK_exit, -getElem?_pos]
          exact ih (i + 1) g a' b' z' _ _ (by omega) ⟨by simp [t0], by simp [t2], by simp [t9], by simp [t11]⟩ (by simp) (gsA hql _ _) q1 q2 q3 hI'
    · conv => arg 1; arg 1; arg 1; simp [loopAt, loopIn, headId, Try.f3, r0, r2, r9, r11, s12, hlt, hH, hqa, k0, c1, c2, hix, hix2', hgd, hgo, al, w15, w17, exz, eS, k1, -getElem?_pos]
      simp only [Option.bind_assoc]
      refine told_loop l i hil hl _ _ Q i 0 (true) _ (by omega) (by simp [r2]) (by simp [s12]) (by simp) (by simp) ?_
      intro σ' hσ h15
      have t0 : σ' 0 = encProg p := by rw [hσ 0 (by decide) (by decide) (by decide)]; simp [r0]
      have t2 : σ' 2 = encL 3 encO l := by rw [hσ 2 (by decide) (by decide) (by decide)]; simp [r2]
      have t9 : σ' 9 = .ptr q 0 0 0 := by rw [hσ 9 (by decide) (by decide) (by decide)]; simp [r9]
      have t11 : σ' 11 = encL 1 I (some (depthsOf (p.getD []) x)) := by rw [hσ 11 (by decide) (by decide) (by decide)]; simp [r11]
      have t12 : σ' 12 = I i := by rw [hσ 12 (by decide) (by decide) (by decide)]; simp [s12]
      have t13 : σ' 13 = .ptr H.length 0 0 0 := by rw [hσ 13 (by decide) (by decide) (by decide)]; simp
      have t14 : σ' 14 = I k := by rw [hσ 14 (by decide) (by decide) (by decide)]; simp
      clear hσ
      rw [List.drop_zero] at h15
      obtain ⟨T, hT⟩ : ∃ T, ((true) || told34 ((l.getD []).take i)) = T := ⟨_, rfl⟩
      rw [hT] at h15
      rcases kk3 with ⟨k4, _⟩ | ⟨k4, k5 | ⟨k5, k6⟩⟩
      · simp [t0, t2, t9, t11, t12, t13, t14, h15, kk1, kk2, k4, hqa, hql, gsA hql, stA hql, hw, blockK_exit, -getElem?_pos]
        exact ih (i + 1) g a' b' z' _ _ (by omega) ⟨by simp [t0], by simp [t2], by simp [t9], by simp [t11]⟩ (by simp) (gsA hql _ _) q1 q2 q3 hI'
      · have hT1 : T = true := by rw [← hT, k5]; simp
        subst hT1
        simp [t0, t2, t9, t11, t12, t13, t14, h15, kk1, kk2, k4, hqa, hql, gsA hql, stA hql, hw, blockK_exit, -getElem?_pos]
        exact ih (i + 1) g a' b' z' _ _ (by omega) ⟨by simp [t0], by simp [t2], by simp [t9], by simp [t11]⟩ (by simp) (gsA hql _ _) q1 q2 q3 hI'
      · cases T
        · simp [t0, t2, t9, t11, t12, t13, t14, h15, kk1, kk2, k4, k5, k6, hqa, hql, gsA hql, stA hql, hw, blockK_exit, -getElem?_pos]
          exact ih (i + 1) g a' b' z' _ _ (by omega) ⟨by simp [t0], by simp [t2], by simp [t9], by simp [t11]⟩ (by simp) (gsA hql _ _) q1 q2 q3 hI'
        · simp [t0, t2, t9, t11, t12, t13, t14, h15, kk1, kk2, k4, hqa, hql, gsA hql, stA hql, hw, blockK_exit, -getElem?_pos]
          exact ih (i + 1) g a' b' z' _ _ (by omega) ⟨by simp [t0], by simp [t2], by simp [t9], by simp [t11]⟩ (by simp) (gsA hql _ _) q1 q2 q3 hI'
end Go.Proofs.YtghidjgejmmcmaaW.Rg
