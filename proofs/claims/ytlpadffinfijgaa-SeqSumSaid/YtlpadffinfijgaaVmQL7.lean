/- SeqSum. No conditions. -/
import Derived.Test.YtlpadffinfijgaaVmFx10b
import Derived.Test.YtlpadffinfijgaaVmQSm
import Derived.Test.YtlpadffinfijgaaVmQL4
set_option linter.unusedVariables false
set_option linter.unusedSimpArgs false
set_option maxRecDepth 10000
namespace Go.Proofs.YtlpadffinfijgaaW.Rg
open Go.Proofs.YtlpadffinfijgaaW.Vm Go.Proofs.YtlpadffinfijgaaW.Md
open Go Go.Proofs
@[reducible] noncomputable def rof (k : Nat) : Code := .region k (opsAt Try.f15 k) false
theorem of_code : Try.f15.body = some (.seq (rof 0) (.seq (rof 1) (.seq (rof 2) .ret))) := rfl
/-- a text, parsed in memory that is not empty -/
theorem of_go (o0 o1 o2 o3 o4 : Ob) : CallGo Try.prog 15 [.str tx_x4] [o0, o1, o2, o3, o4] (.ret (.own 4 8 1 0 2)) (o0 :: o1 :: o2 :: o3 :: o4 :: psE) := by
  have hp : CallGo Try.prog 26 [.str tx_x4] [o0, o1, o2, o3, o4] (.ret (.tup [.own 4 8 1 0 2, I 11, .int .i64 0])) (o0 :: o1 :: o2 :: o3 :: o4 :: psE) :=
    callGo_W fitW (body_le (exec_W 300) (ps_k o0 o1 o2 o3 o4))
  obtain ⟨tx, htx⟩ : ∃ tx, tx = tx_x4 := ⟨_, rfl⟩
  rw [← htx] at hp ⊢
  have e0 : W Try.prog cfg (rof 0) ⟨argsσ [.str tx], [o0, o1, o2, o3, o4], 13⟩ = some (.normal, ⟨upd (argsσ [.str tx]) 2 .snil, [o0, o1, o2, o3, o4], 13⟩) := by
    simp [opsAt, opsIn, Try.f15, -getElem?_pos]
  have e1 : ∃ σ1, Goes Try.prog (rof 1) [] ⟨upd (argsσ [.str tx]) 2 .snil, [o0, o1, o2, o3, o4], 13⟩ (.ex .normal) [] ⟨σ1, o0 :: o1 :: o2 :: o3 :: o4 :: psE, 13⟩ ∧ σ1 3 = .own 4 8 1 0 2 := by
    obtain ⟨T, hT⟩ : ∃ T : D, T = .tup [.own 4 8 1 0 2, I 11, .int .i64 0] := ⟨_, rfl⟩
    obtain ⟨σa, ha⟩ : ∃ σa, σa = upd (upd (upd (argsσ [.str tx]) 2 .snil) 7 (.str tx)) 8 T := ⟨_, rfl⟩
    refine ⟨upd (upd (upd (upd (upd (upd (upd σa 6 T) 9 (.own 4 8 1 0 2)) 10 (I 11)) 11 (.int .i64 0)) 3 (.own 4 8 1 0 2)) 4 (I 11)) 5 (.int .i64 0), goes_region (opsGo_step fitW (s1 := ⟨upd (upd (argsσ [.str tx]) 2 .snil) 7 (.str tx), [o0, o1, o2, o3, o4], 13⟩) (o := _) rfl ?_ (opsGo_call (o := _) rfl rfl ⟨_, _, [], [], [.str tx], rfl, rfl, rfl, rfl, rfl⟩ hp (s1 := ⟨σa, o0 :: o1 :: o2 :: o3 :: o4 :: psE, 13⟩) (by rw [ha, hT]; rfl)
      (opsGo_steps fitW (s1 := ⟨upd (upd (upd (upd (upd (upd (upd σa 6 T) 9 (.own 4 8 1 0 2)) 10 (I 11)) 11 (.int .i64 0)) 3 (.own 4 8 1 0 2)) 4 (I 11)) 5 (.int .i64 0), o0 :: o1 :: o2 :: o3 :: o4 :: psE, 13⟩) 7 2 rfl (by decide) ?_ (opsGo_nil (ops := opsAt Try.f15 1) (k := 9) (by decide))))), by simp⟩
    · conv => lhs; simp [opsAt, opsIn, Try.f15, argsσ, -getElem?_pos]
    · have h8 : σa 8 = T := by rw [ha]; simp
      rw [hT] at h8 ⊢
      conv => lhs; simp [opsAt, opsIn, Try.f15, h8, -getElem?_pos]
  obtain ⟨σ1, e1, h1⟩ := e1
  have e2 : ∃ σ2, W Try.prog cfg (.seq (rof 2) .ret) ⟨σ1, o0 :: o1 :: o2 :: o3 :: o4 :: psE, 13⟩ = some (.ret, ⟨σ2, o0 :: o1 :: o2 :: o3 :: o4 :: psE, 13⟩) ∧ σ2 2 = .own 4 8 1 0 2 := by
    refine ⟨_, by
      conv => lhs; simp [opsAt, opsIn, Try.f15, h1, -getElem?_pos], by simp⟩
  obtain ⟨σ2, e2, h2⟩ := e2
  have := callGo_ret (P := Try.prog) (f := 15) (args := [.str tx]) (h := [o0, o1, o2, o3, o4]) (st' := ⟨σ2, o0 :: o1 :: o2 :: o3 :: o4 :: psE, 13⟩) (d := .own 4 8 1 0 2) Try.func15 of_code rfl (.inr rfl) (goes_seq (goes_W fitW e0) (goes_seq e1 (goes_W fitW e2))) (by simp [Vm.results, Try.f15, h2])
  exact this
theorem of_any : ∃ E : List Ob, (∀ o0 o1 o2 o3 o4 : Ob, CallGo Try.prog 15 [.str tx_x4] [o0, o1, o2, o3, o4] (.ret (.own 4 8 1 0 2)) (o0 :: o1 :: o2 :: o3 :: o4 :: E)) ∧
    E[3]? = some ⟨1, 4, [.agg [I 1, I 1, I 2, .own 3 12 7 0 8], .agg [I 0, I 0, I 0, .own 3 40 0 0 1]], 0⟩ ∧
    E[7]? = some ⟨7, 3, [.agg [I 1, I 0, I 0], .agg [I 13, I 1, I 0], .agg [I 1, I 0, I 0], .agg [I 13, I 1, I 1], .agg [I 14, I 1, I 0], .agg [I 14, I 0, I 0], .agg [I 3, I 0, I 0], .agg [I 15, I 0, I 0]], 0⟩ := ⟨psE, of_go, ps_8, ps_12⟩
theorem get5 (a b c d e : Ob) (l : List Ob) (k : Nat) : (a :: b :: c :: d :: e :: l)[k + 5]? = l[k]? := rfl
section
variable (x : Fu) (v : Vl)
@[reducible] def oF : Ob := ⟨0, 4, [encFunc x], 0⟩
@[reducible] def oV : Ob := ⟨0, 2, [encV v], 0⟩
/-- is there a draw, or a spawn? -/
theorem sm_loop (hl : x.c.length ≤ 200) {H : List Ob} (h0 : H[0]? = some (oF x)) {X : Type} (K : Ex × St → Option X) (Q : Option X → Prop) : ∀ (rest : List Instr) (k : Nat) (σ : Nat → D), x.c.drop k = rest → σ 2 = .ptr 0 0 0 0 → σ 3 = .ptr 1 0 0 0 → σ 5 = I k →
    ((∃ z ∈ rest, z.op = 12 ∨ z.op = 13) → ∀ σ', σ' 4 = .bool true → Q (K (.ret, ⟨σ', H, 116⟩))) →
    ((∀ z ∈ rest, z.op ≠ 12 ∧ z.op ≠ 13) → ∀ σ', σ' 2 = .ptr 0 0 0 0 → σ' 3 = .ptr 1 0 0 0 → Q (K (.exit 0, ⟨σ', H, 116⟩))) →
    Q ((W Try.prog cfgE (.loop (loopAt Try.f5 4)) ⟨σ, H, 116⟩).bind K) := by
  intro rest
  have hl : (x.code.getD []).length ≤ 200 := hl
  induction rest with
  | nil =>
    intro k σ hd s2 s3 s5 hf he
    have hi : ¬ (k < x.c.length) := by have := congrArg List.length hd; simp at this; omega
    have hi2 : decide (k < (x.code.getD []).length) = false := df hi
    rw [Wloop]
    conv => arg 1; arg 1; arg 1; simp [loopAt, loopIn, headId, Try.f5, s2, s5, h0, hi2, -getElem?_pos]
    exact he (by simp) _ (by simp [s2]) (by simp [s3])
  | cons y rest ih =>
    intro k σ hd s2 s3 s5 hf he
    obtain ⟨hg1, hd1, hi⟩ := drop_get hd
    have hg1 : (x.code.getD [])[k]? = some y := hg1
    have hi : k < (x.code.getD []).length := hi
    have hlt : decide (k < (x.code.getD []).length) = true := dt hi
    have hx2 := idxD_nat .i64 hi
    have hw : IntKind.i64.wrap ((k : Int) + 1) = ((k + 1 : Nat) : Int) := wr (by omega) (by omega)
    cases c1 : decide (y.op = 12)
    case true =>
      rw [Wloop]
      conv => arg 1; arg 1; arg 1; simp [loopAt, loopIn, headId, Try.f5, s2, s5, h0, hlt, hx2, hg1, c1, hw, -getElem?_pos]
      exact hf ⟨y, by simp, .inl (of_decide_eq_true c1)⟩ _ (by simp)
    cases c2 : decide (y.op = 13)
    case true =>
      rw [Wloop]
      conv => arg 1; arg 1; arg 1; simp [loopAt, loopIn, headId, Try.f5, s2, s5, h0, hlt, hx2, hg1, c1, c2, hw, -getElem?_pos]
      exact hf ⟨y, by simp, .inr (of_decide_eq_true c2)⟩ _ (by simp)
    rw [Wloop]
    conv => arg 1; arg 1; arg 1; simp [loopAt, loopIn, headId, Try.f5, s2, s5, h0, hlt, hx2, hg1, c1, c2, hw, -getElem?_pos]
    rw [Option.bind_some, loopK_normal]
    refine ih (k + 1) _ hd1 (by simp [s2]) (by simp [s3]) (by simp) (fun ⟨z, hz, hz2⟩ => hf ⟨z, by simp [hz], hz2⟩) (fun hn => he fun z hz => ?_)
    rcases List.mem_cons.1 hz with rfl | hz
    · exact ⟨of_decide_eq_false c1, of_decide_eq_false c2⟩
    · exact hn z hz
end
/-- two functions, one of them one's own -/
theorem exp_two {H : List Ob} {x : Fu} (h8 : H[8]? = some ⟨1, 4, [.agg [I 1, I 1, I 2, .own 3 12 7 0 8], encFunc x], 0⟩)
    (h12 : H[12]? = some ⟨7, 3, [.agg [I 1, I 0, I 0], .agg [I 13, I 1, I 0], .agg [I 1, I 0, I 0], .agg [I 13, I 1, I 1], .agg [I 14, I 1, I 0], .agg [I 14, I 0, I 0], .agg [I 3, I 0, I 0], .agg [I 15, I 0, I 0]], 0⟩) :
    exp1 H (.own 4 8 1 0 2) = some (encProg (some [mainS, x])) := by
  rw [exp_own, elsOf_own, h8, Option.bind_some, if_pos ⟨rfl, rfl, by simp⟩, List.drop_zero, List.take_of_length_le (by simp), Option.bind_some]
  have hm : FunOf H (.agg [I 1, I 1, I 2, .own 3 12 7 0 8]) mainS := ⟨12, 7, 8, 0, _, rfl, rfl, h12, rfl⟩
  have hx : expG (expI 1 H) H (encFunc x) = some (encFunc x) := expG_clean (by simp) (by simp)
  unfold ownK expI
  rw [show cleans [.agg [I 1, I 1, I 2, .own 3 12 7 0 8], encFunc x] = false by simp]
  simp only [expsG, hm.exp, hx]
  rw [show cleans [encFunc mainS, encFunc x] = true by simp]
  rfl
end Go.Proofs.YtlpadffinfijgaaW.Rg
