/- SeqWraps: the law. No conditions. -/
import Derived.Test.YtlpadffinfijgaaVmQL5
set_option linter.unusedVariables false
set_option linter.unusedSimpArgs false
set_option maxRecDepth 10000
namespace Go.Proofs.YtlpadffinfijgaaW.Rg
open Go.Proofs.YtlpadffinfijgaaW.Vm Go.Proofs.YtlpadffinfijgaaW.Md
open Go Go.Proofs
set_option maxHeartbeats 4000000 in
theorem wraps10_law (p : Option (List Fu)) (a : Option (List Vl)) (s : Int) (hb : Bnd (p.getD [])) : fnc Try.prog cfgE RE 8 [.agg [encProg p, encL 2 encV a, I s]] = some (.bool true) := by
  have hS := small10_spec p a s
  have hS2 := up (small_spec p 250)
  have hI := up (rIs_spec s)
  have hG := up (rgood_spec p hb)
  rw [fnc_at (cfgE_ext rfl), body_eq Try.func8 rfl rfl]
  have hdr := drE dr8_1
  simp [opsAt, opsIn, Try.f8] at hdr
  have hdw := Wdraw hdr
  clear hdr
  cases k1 : (small (p.getD []) 300 && decide ((a.getD []).length ≤ 40))
  · rw [k1] at hS
    simp [argsσ, Vm.results, hS, fixed10, hdw, logL, loud, isE, drawChk, -getElem?_pos]
  rw [k1] at hS
  cases k2 : small (p.getD []) 250
  · rw [k2] at hS2
    simp [argsσ, Vm.results, hS, hS2, fixed10, hdw, logL, loud, isE, drawChk, -getElem?_pos]
  rw [k2] at hS2
  cases k3 : decide (15 < (p.getD []).length)
  case true =>
    have k3i : decide (15 < ((p.getD []).length : Int)) = true := dt (by have := of_decide_eq_true k3; omega)
    simp [argsσ, Vm.results, hS, hS2, fixed10, k3, k3i, of_decide_eq_true k3, of_decide_eq_true k3i, hdw, logL, loud, isE, drawChk, -getElem?_pos]
  have k3' := of_decide_eq_false k3
  have k3n : ¬ (15 < ((p.getD []).length : Int)) := by omega
  have k3i : decide (15 < ((p.getD []).length : Int)) = false := df k3n
  cases k4 : good (p.getD [])
  · rw [k4] at hG
    simp [argsσ, Vm.results, hS, hS2, fixed10, k3, k3', k3n, k3i, hG, hdw, logL, loud, isE, drawChk, -getElem?_pos]
  rw [k4] at hG
  have hmay := (good_iff.1 k4).1
  have hlen : 0 < (p.getD []).length := by
    unfold mayP at hmay
    simp only [Bool.and_eq_true, decide_eq_true_eq] at hmay
    omega
  have hx0 : (p.getD [])[0]? = some (p.getD [])[0] := List.getElem?_eq_getElem hlen
  generalize (p.getD [])[0] = x0 at hx0
  have ix0 : idxD (p.getD []).length (I 0) = some 0 := idxD_nat .i64 hlen
  cases k5 : isS s
  · rw [k5] at hI
    simp [argsσ, Vm.results, hS, hS2, fixed10, k3, k3', k3n, k3i, hG, hI, hdw, logL, loud, isE, drawChk, -getElem?_pos]
  rw [k5] at hI
  cases k6 : decide (8 < (a.getD []).length)
  case true =>
    have k6i : decide (8 < ((a.getD []).length : Int)) = true := dt (by have := of_decide_eq_true k6; omega)
    simp [argsσ, Vm.results, hS, hS2, fixed10, k3, k3', k3n, k3i, hG, hI, k6, k6i, of_decide_eq_true k6, of_decide_eq_true k6i, hdw, logL, loud, isE, drawChk, -getElem?_pos]
  have k6' := of_decide_eq_false k6
  have k6n : ¬ (8 < ((a.getD []).length : Int)) := by omega
  have k6i : decide (8 < ((a.getD []).length : Int)) = false := df k6n
  cases k7 : decide (((a.getD []).length : Int) = x0.arity)
  · simp [argsσ, Vm.results, hS, hS2, fixed10, k3, k3', k3n, k3i, hG, hI, k6, k6i, k6', k6n, ix0, hx0, k7, hdw, logL, loud, isE, drawChk, -getElem?_pos]
  have hn8 : (a.getD []).length ≤ 8 := by omega
  have hp15 : (p.getD []).length ≤ 15 := by omega
  have ha := of_decide_eq_true k7
  have hl63 : (p.getD []).length < 2 ^ 63 := by omega
  have ha62 : (a.getD []).length < 2 ^ 62 := by omega
  have hcl : ∀ g ∈ p.getD [], (1 ≤ g.c.length ∧ g.c.length ≤ 200) ∧ ∀ x ∈ g.c, -1000 ≤ x.a ∧ x.a ≤ 1000 := fun g hg => by
    refine ⟨fmay_len (mayP_f hmay hg), fun x hx => ?_⟩
    have hi := imay_iff.1 (imay_all k4 hg hx)
    have h0 := imay_a (imay_all k4 hg hx)
    have h1 := hi.2.2.2.1
    unfold mostA at h1
    refine ⟨by omega, ?_⟩
    (repeat' split at h1) <;> omega
  simp [argsσ, hS, hS2, fixed10, k3, k3', k3n, k3i, hG, hI, k6, k6i, k6', k6n, ix0, hx0, k7, hdw, logL, loud, isE, drawChk, Option.bind_assoc, -getElem?_pos]
  refine wr_loads p a s (a.getD []).length hn8 _ (fun o => o = some _) (a.getD []).length 0 _ _ (by omega) (.inl ⟨rfl, rfl⟩) ?_ ?_ ?_ ?_ ?_
  · simp
  · simp
  · simp
  · simp
  obtain ⟨n, hn⟩ : ∃ n, n = (a.getD []).length := ⟨_, rfl⟩
  rw [← hn]
  intro σ1 H1 hM s1 s3 s4
  -- the first function is whole
  have hmain : ∃ σ2, (W Try.prog cfgE (.region 9 (opsAt Try.f8 9) false) ⟨σ1, H1, 210⟩ = some (.normal, ⟨σ2, [oIn p a s, oMn n (.own 3 2 n 0 (n + 3)), ⟨n, 3, (ldL n ++ [(⟨13, 1, 0⟩ : Instr), ⟨14, 0, 0⟩, ⟨15, 0, 0⟩]).map encInstr, 0⟩], 210⟩)) ∧ σ2 1 = .ptr 0 0 0 0 ∧ σ2 3 = I n ∧ σ2 4 = .ptr 1 0 0 0 := by
    rcases hM with ⟨h0, rfl⟩ | ⟨h0, rfl⟩
    · subst h0
      have ap1 : ∀ h : List Ob, apK 24 3 h .snil [] [.agg [I 13, I 1, I 0], .agg [I 14, I 0, I 0], .agg [I 15, I 0, I 0]] = some (.own 3 h.length 0 0 3, h ++ [⟨0, 3, [.agg [I 13, I 1, I 0], .agg [I 14, I 0, I 0], .agg [I 15, I 0, I 0]], 0⟩]) := fun h => by
        rw [apK_ok (by simp)]; rfl
      exact ⟨_, by
        conv => lhs; simp [opsAt, opsIn, Try.f8, s4, ap1, -getElem?_pos]
        rfl, by simp [s1], by simp [s3], by simp [s4]⟩
    · have el1 : ∀ o1 o2 : Ob, elsZ [o1, o2, ⟨n - 1, 3, (ldL n).map encInstr, 0⟩] 3 (.own 3 2 (n - 1) 0 n) = some ((ldL n).map encInstr) := fun o1 o2 => by
        simp [elsZ, elsOf_own, -List.map_take, ldL_len]
        exact List.take_of_length_le (by simp [ldL_len])
      have ap1 : ∀ o1 o2 : Ob, apK 24 3 [o1, o2, ⟨n - 1, 3, (ldL n).map encInstr, 0⟩] (.own 3 2 (n - 1) 0 n) ((ldL n).map encInstr) [.agg [I 13, I 1, I 0], .agg [I 14, I 0, I 0], .agg [I 15, I 0, I 0]] = some (.own 3 2 n 0 (n + 3), [o1, o2, ⟨n, 3, (ldL n ++ [(⟨13, 1, 0⟩ : Instr), ⟨14, 0, 0⟩, ⟨15, 0, 0⟩]).map encInstr, 0⟩]) := fun o1 o2 => by
        rw [apK_ok (by simp only [List.length_cons, List.length_nil, List.length_map, ldL_len]; omega), apN_own' (by simp)]
        simp [show n - 1 + 1 = n by omega]
      exact ⟨_, by
        conv => lhs; simp [opsAt, opsIn, Try.f8, s4, el1, ap1, -getElem?_pos, -List.map_append], by simp [s1], by simp [s3], by simp [s4]⟩
  obtain ⟨σ2, e2, t1, t3, t4⟩ := hmain
  obtain ⟨L, hL⟩ : ∃ L, L = (mainW n).c.map encInstr := ⟨_, rfl⟩
  have e2 : W Try.prog cfgE (.region 9 (opsAt Try.f8 9) false) ⟨σ1, H1, 210⟩ = some (.normal, ⟨σ2, [oIn p a s, oMn n (.own 3 2 n 0 (n + 3)), ⟨n, 3, L, 0⟩], 210⟩) := by rw [e2, hL]; rfl
  simp [opsAt, opsIn, Try.f8, -Wregion] at e2
  have hbs := fun dst ty pos af g st ps => op_bslice (P := Try.prog) (cfg := cfgE) (run := RE) dst ty pos af g st (z := 41) (n := 1) ps el23 sz41 ag41 ze41 (by rw [plus_lit]; rfl) (by simp [fits_agg ag41 sz41]) (by decide) (by decide)
  simp [e2, -Wregion]
  simp [t1, t3, t4, hbs, Option.bind_assoc, -getElem?_pos]
  refine wr_out p a s n (by omega) hcl _ (fun o => o = some _) (p.getD []) 0 _ [oIn p a s, oMn n (.own 3 2 n 0 (n + 3)), ⟨n, 3, L, 0⟩, ⟨0, 4, [.agg [I n, I n, I 1, .own 3 2 n 0 (n + 3)]], 0⟩] 0 (.agg [I n, I n, I 1, .own 3 2 n 0 (n + 3)]) [] rfl rfl ?_ ?_ ?_ ?_ ?_ ?_ ?_ ?_
  · rfl
  · rfl
  · exact .cons ⟨2, n, n + 3, 0, (mainW n).c, rfl, rfl, by rw [← hL]; rfl, by rw [mw_c]; simp⟩ .nil
  · simp [t1]
  · simp [t3]
  · simp
  · simp
  clear e2 t1 t3 t4 hM s1 s3 s4
  intro σ3 H v ds hlen3 h0 h3 hF s1 s3 s6
  obtain ⟨q, hq⟩ : ∃ q, q = mainW n :: (p.getD []).map shF := ⟨_, rfl⟩
  rw [← hq] at hF
  have hE : ∀ T : List Ob, exp1 (H ++ T) (.own 4 3 v 0 ((p.getD []).length + 1)) = some (encL 4 encFunc (some q)) := fun T =>
    exp_funs (by rw [get_lt (hlt h3)]; exact h3) (by simp [hlen3]) (hF.keep fun id o ho hz => by rw [get_lt (hlt ho)]; exact ho)
  have g0 : ∀ T : List Ob, (H ++ T)[0]? = some (oIn p a s) := fun T => by rw [get_lt (hlt h0)]; exact h0
  have hql : q.length = (p.getD []).length + 1 := by rw [hq]; simp
  have hC := up (rChild_spec s 0)
  have hdr2 := drE dr8_22
  simp [opsAt, opsIn, Try.f8] at hdr2
  have hdw2 := Wdraw hdr2
  clear hdr2
  have key := wraps_ev k4 hp15 hn8 hx0 ha k5
  rw [← hn, ← hq] at key
  have w0 : IntKind.i64.wrap ((n : Int) + 3) = (n : Int) + 3 := wr (by omega) (by omega)
  have w1 : IntKind.i64.wrap ((n : Int) + 3 - 1) = (n : Int) + 2 := by rw [wr (by omega) (by omega)]; omega
  clear hF h3 hlen3 hbs hdw
  rcases key with ⟨k1e, k2e⟩ | ⟨k1e, k2e | ⟨o, c, k2e, hc, hc2⟩⟩ | ⟨o, c, c2, k1e, hc, k2e, hcc⟩
  · have f1 := eval_at hl63 ha62 k1e
    have f2 := eval_at (p := some q) (a := a) (by rw [Option.getD_some]; omega) ha62 k2e
    simp [argsσ, Vm.results, s1, s3, s6, h0, g0, hC, f1, f2, hE, hdw2, logL, loud, isE, drawChk, o0, v0, retK_flat, flat, flats, -getElem?_pos]
  · have f1 := eval_at hl63 ha62 k1e
    have f2 := eval_at (p := some q) (a := a) (by rw [Option.getD_some]; omega) ha62 k2e
    simp [argsσ, Vm.results, s1, s3, s6, h0, g0, hC, f1, f2, hE, hdw2, logL, loud, isE, drawChk, o0, v0, retK_flat, flat, flats, -getElem?_pos]
  · have f1 := eval_at hl63 ha62 k1e
    have f2 := eval_at (p := some q) (a := a) (by rw [Option.getD_some]; omega) ha62 k2e
    have d1 : decide (2000 < (c : Int)) = true := dt (by omega)
    have d2 : (2000 : Int) < c := by omega
    simp [argsσ, Vm.results, s1, s3, s6, h0, g0, hC, f1, f2, hE, hdw2, logL, loud, isE, drawChk, o0, v0, d1, d2, hc, retK_flat, flat, flats, -getElem?_pos]
  · have f1 := eval_at hl63 ha62 k1e
    have f2 := eval_at (p := some q) (a := a) (by rw [Option.getD_some]; omega) ha62 k2e
    rcases hcc with ⟨ht, hcc⟩ | ⟨ht, hcc⟩
    · have d0 : decide (o.trap = 0) = true := dt ht
      have w2 : IntKind.i64.wrap ((c : Int) + ((n : Int) + 3)) = (c2 : Int) := by rw [wr (by omega) (by omega)]; omega
      simp [argsσ, Vm.results, s1, s3, s6, h0, g0, hC, f1, f2, hE, hdw2, logL, loud, isE, drawChk, d0, ht, w0, w2, retK_flat, flat, flats, -getElem?_pos]
    · have d0 : decide (o.trap = 0) = false := df ht
      have w2 : IntKind.i64.wrap ((c : Int) + ((n : Int) + 2)) = (c2 : Int) := by rw [wr (by omega) (by omega)]; omega
      simp [argsσ, Vm.results, s1, s3, s6, h0, g0, hC, f1, f2, hE, hdw2, logL, loud, isE, drawChk, d0, ht, w0, w1, w2, retK_flat, flat, flats, -getElem?_pos]
end Go.Proofs.YtlpadffinfijgaaW.Rg
