/- SeqSum: the law, whole. No conditions. -/
import Derived.Test.YtlpadffinfijgaaVmQL8
set_option linter.unusedVariables false
set_option linter.unusedSimpArgs false
set_option maxRecDepth 10000
namespace Go.Proofs.YtlpadffinfijgaaW.Rg
open Go.Proofs.YtlpadffinfijgaaW.Vm Go.Proofs.YtlpadffinfijgaaW.Md
open Go Go.Proofs
set_option maxHeartbeats 2000000 in
theorem sum10_go (x : Fu) (v : Vl) (hxl : x.c.length < 2 ^ 62) : ∃ h', CallGo Try.prog 5 [encFunc x, encV v] [] (.ret (.bool true)) h' := by
  have hm := up (rMay_spec v)
  have hG := up (rgood_spec (some [x]) ⟨by simp, fun f hf => by simp at hf; subst hf; omega⟩)
  rw [Option.getD_some] at hG
  have hb1 := fun dst ty pos af g st ps => op_bslice (P := Try.prog) (cfg := cfgE) (run := RE) dst ty pos af g st (z := 41) (n := 1) ps el23 sz41 ag41 ze41 (by rw [plus_lit]; rfl) (by simp [fits_agg ag41 sz41]) (by decide) (by decide)
  have hx1 : ∀ o1 o2 : Ob, exp1 [o1, o2, ⟨0, 4, [encFunc x], 0⟩] (.own 4 2 0 0 1) = some (.sl 4 [encFunc x] false) := fun o1 o2 => by
    rw [exp_own, elsOf_own]; simp [ownK_clean, cl_func]
  have hx2 : ∀ o1 o2 o3 : Ob, exp1 [o1, o2, o3, ⟨0, 4, [encFunc x], 0⟩] (.own 4 3 0 0 1) = some (.sl 4 [encFunc x] false) := fun o1 o2 o3 => by
    rw [exp_own, elsOf_own]; simp [ownK_clean, cl_func]
  simp only [encL, List.map] at hG
  have rb : ∀ (h : List Ob) (args : List D) (b : Bool), retK cfgE h args (.bool b) = some (.bool b, h) := fun h args b => retK_flat h args _ rfl
  have lenI : ((x.code.getD []).length : Int) = x.c.length := rfl
  cases k1 : decide (x.arity = 1)
  · refine go_of_map ?_
    rw [body_eq Try.func5 rfl rfl]
    simp [argsσ, Vm.results, fixed10, k1, -getElem?_pos]
  cases k2 : decide (200 < (x.code.getD []).length)
  case true =>
    have k2i : decide (200 < ((x.code.getD []).length : Int)) = true := dt (by have := of_decide_eq_true k2; omega)
    refine go_of_map ?_
    rw [body_eq Try.func5 rfl rfl]
    simp [argsσ, Vm.results, fixed10, k1, k2, k2i, of_decide_eq_true k2, of_decide_eq_true k2i, -getElem?_pos]
  have k2' := of_decide_eq_false k2
  have k2n : ¬ (200 < ((x.code.getD []).length : Int)) := by omega
  have k2i : decide (200 < ((x.code.getD []).length : Int)) = false := df k2n
  cases k3 : v.may
  · rw [k3] at hm
    refine go_of_map ?_
    rw [body_eq Try.func5 rfl rfl]
    simp [argsσ, Vm.results, fixed10, k1, k2, k2', k2n, k2i, hm, -getElem?_pos]
  rw [k3] at hm
  cases k4 : good [x]
  · rw [k4] at hG
    refine go_of_map ?_
    rw [body_eq Try.func5 rfl rfl]
    simp [argsσ, Vm.results, fixed10, k1, k2, k2', k2n, k2i, hm, hb1, hx1, hG, rb, -getElem?_pos]
  rw [k4] at hG
  by_cases hno : ∀ z ∈ x.c, z.op ≠ 12 ∧ z.op ≠ 13
  case neg =>
    refine go_of_map ?_
    rw [body_eq Try.func5 rfl rfl]
    simp [argsσ, fixed10, k1, k2, k2', k2n, k2i, hm, hb1, hx1, hG, rb, Option.bind_assoc, -getElem?_pos]
    refine sm_loop x ?_ (H := [oF x, oV v, oF x]) ?_ _ (fun o => o = some (D.bool true)) x.c 0 _ rfl ?_ ?_ ?_ ?_ ?_
    · show (x.code.getD []).length ≤ 200; omega
    · rfl
    · simp
    · simp
    · simp
    · intro _ σ' h4
      simp [Vm.results, h4]
    · exact fun hn => absurd hn hno
  obtain ⟨o, n, e, he⟩ : ∃ o n e, evS [x] [v] 1 1000 = (o, n, e) := ⟨_, _, _, rfl⟩
  have f1 := eval_at (p := some [x]) (a := some [v]) (by simp) (by simp) he
  simp only [encL, List.map] at f1
  have w0 : ∃ σ0, W Try.prog cfgE (sq1 smB) ⟨argsσ [encFunc x, encV v], [], 116⟩ = some (.normal, ⟨σ0, [oF x, oV v], 116⟩) ∧ σ0 2 = .ptr 0 0 0 0 ∧ σ0 3 = .ptr 1 0 0 0 := by
    refine ⟨_, by
      conv => lhs; simp [sq1, sq2, smB, Try.f5, argsσ, -getElem?_pos], by simp, by simp⟩
  obtain ⟨σ0, w0, a2, a3⟩ := w0
  have w1 : ∃ σ1, W Try.prog cfgE (sq1 (sq2 smB)) ⟨σ0, [oF x, oV v], 116⟩ = some (.normal, ⟨σ1, [oF x, oV v, oF x], 116⟩) ∧ σ1 2 = .ptr 0 0 0 0 ∧ σ1 3 = .ptr 1 0 0 0 := by
    refine ⟨_, by
      conv => lhs; simp [sq1, sq2, smB, Try.f5, a2, a3, fixed10, k1, k2, k2', k2n, k2i, hm, hb1, hx1, hG, rb, -getElem?_pos], by simp [a2], by simp [a3]⟩
  obtain ⟨σ1, w1, b2, b3⟩ := w1
  have w2 : ∃ σ2, W Try.prog cfgE (sq1 (sq2 (sq2 smB))) ⟨σ1, [oF x, oV v, oF x], 116⟩ = some (.normal, ⟨σ2, [oF x, oV v, oF x], 116⟩) ∧ σ2 2 = .ptr 0 0 0 0 ∧ σ2 3 = .ptr 1 0 0 0 := by
    simp [sq1, sq2, smB, Try.f5, Option.bind_assoc, -getElem?_pos]
    refine sm_loop x ?_ (H := [oF x, oV v, oF x]) ?_ _ (fun o : Option (Ex × St) => ∃ σ2 : Nat → D, o = some (.normal, ⟨σ2, [oF x, oV v, oF x], 116⟩) ∧ σ2 2 = .ptr 0 0 0 0 ∧ σ2 3 = .ptr 1 0 0 0) x.c 0 _ rfl ?_ ?_ ?_ ?_ ?_
    · show (x.code.getD []).length ≤ 200; omega
    · rfl
    · simp [b2]
    · simp [b3]
    · simp
    · rintro ⟨z, hz, hz2⟩
      have := hno z hz
      omega
    · intro _ σ' h2 h3
      exact ⟨σ', by simp, h2, h3⟩
  obtain ⟨σ2, w2, c2, c3⟩ := w2
  have w3 : ∃ σ3, W Try.prog cfgE (sq1 (sq2 (sq2 (sq2 smB)))) ⟨σ2, [oF x, oV v, oF x], 116⟩ = some (.normal, ⟨σ3, [oF x, oV v, oF x, oF x, ⟨0, 3, [encO o], 0⟩], 116⟩) ∧ σ3 2 = .ptr 0 0 0 0 ∧ σ3 3 = .ptr 1 0 0 0 ∧ σ3 6 = .ptr 4 0 0 0 ∧ σ3 7 = I n ∧ σ3 8 = I e := by
    refine ⟨_, by
      conv => lhs; simp [sq1, sq2, smB, Try.f5, c2, c3, hb1, hx2, f1, retK_flat, flat, flats, -getElem?_pos], by simp [c2], by simp [c3], by simp, by simp, by simp⟩
  obtain ⟨σ3, w3, d2, d3, d6, d7, d8⟩ := w3
  obtain ⟨E, of_go, ps_8, ps_12⟩ := of_any
  have g4 : Goes Try.prog (sq1 (sq2 (sq2 (sq2 (sq2 smB))))) [] ⟨σ3, [oF x, oV v, oF x, oF x, ⟨0, 3, [encO o], 0⟩], 116⟩ (.ex .normal) [] ⟨upd (upd σ3 70 (.own 4 8 1 0 2)) 9 (.own 4 8 1 0 2), oF x :: oV v :: oF x :: oF x :: ⟨0, 3, [encO o], 0⟩ :: E, 116⟩ := by
    rw [sm_r9]
    refine goes_region (opsGo_call (o := _) rfl rfl ⟨_, _, [], [], [.str tx_x4], rfl, rfl, rfl, rfl, rfl⟩ (of_go _ _ _ _ _) (s1 := ⟨upd σ3 70 (.own 4 8 1 0 2), oF x :: oV v :: oF x :: oF x :: ⟨0, 3, [encO o], 0⟩ :: E, 116⟩) rfl (opsGo_step fitE (o := _) rfl ?_ (opsGo_nil (ops := opsAt Try.f5 9) (k := 2) (by decide))))
    conv => lhs; simp [opsAt, opsIn, Try.f5, -getElem?_pos]
  have key := sum_ev k4 (of_decide_eq_true k1) (fun z hz => (hno z hz).2) (fun y hy z hz => by rw [List.mem_singleton.1 hy] at hz; exact (hno z hz).1) k3
  have hev : n ≤ 1000 ∧ (e ≠ 0 ∨ (e = 0 ∧ ((o.trap ≠ 0 ∧ ∃ c, evS [mainS, x] [v] 2 3000 = (o, c, 0)) ∨ (o.trap = 0 ∧ evS [mainS, x] [v] 2 3000 = (⟨0, addG o.v o.v⟩, 2 * n + 8, 0))))) := by
    rcases key with ⟨e', hne, h⟩ | ⟨o', n', h, hn, h2⟩
    · rw [he] at h; cases h; exact ⟨by omega, .inl hne⟩
    · rw [he] at h; cases h; exact ⟨hn, .inr ⟨rfl, h2⟩⟩
  obtain ⟨σ5, H5, w5, t4⟩ := sm_rest x v o n e (σ := upd (upd σ3 70 (.own 4 8 1 0 2)) 9 (.own 4 8 1 0 2)) (HH := oF x :: oV v :: oF x :: oF x :: ⟨0, 3, [encO o], 0⟩ :: E) (by simp [d2]) (by simp [d3]) (by simp [d6]) (by simp [d7]) (by simp [d8]) (by simp) rfl rfl rfl
    ((get5 _ _ _ _ _ E 3).trans ps_8) ((get5 _ _ _ _ _ E 7).trans ps_12) hev.1 hev.2
  exact ⟨_, callGo_ret Try.func5 sm_code rfl (.inr rfl) (goes_seq (goes_W fitE w0) (goes_seq (goes_W fitE w1) (goes_seq (goes_W fitE w2) (goes_seq (goes_W fitE w3) (goes_seq g4 (goes_W fitE w5)))))) (by simp [Vm.results, Try.f5, t4])⟩
end Go.Proofs.YtlpadffinfijgaaW.Rg
