/- Jumps in the plain machine without a bound, as equations. No conditions. -/
import Derived.Test.YtlpadffinfijgaaVmSim
set_option linter.unusedVariables false
set_option linter.unusedSimpArgs false
namespace Go.Proofs.YtlpadffinfijgaaW.Vm
open Go
open Classical in
/-- the machine in a scope: from this code on -/
noncomputable def SC (P : Program) (cfg : Cfg) (b c : Code) (st : St) : Option (Ex × St) := if h : ∃ k x, scopeD (exec P cfg k) b k c st = some x then some h.choose_spec.choose else none
section
variable {P : Program} {cfg : Cfg}
theorem SC_iff {b c : Code} {st : St} {x} : SC P cfg b c st = some x ↔ ∃ k, scopeD (exec P cfg k) b k c st = some x := by
  unfold SC
  split
  · rename_i h
    have hs := h.choose_spec.choose_spec
    generalize h.choose_spec.choose = y at hs ⊢
    generalize h.choose = k at hs
    constructor
    · intro e; simp only [Option.some.injEq] at e; subst e; exact ⟨k, hs⟩
    · rintro ⟨m, hm⟩
      have h1 := scopeD_le (exec_le (Nat.le_max_left k m)) (Nat.le_max_left k m) hs
      have h2 := scopeD_le (exec_le (Nat.le_max_right k m)) (Nat.le_max_right k m) hm
      rw [h1] at h2
      exact h2
  · rename_i h
    constructor
    · intro e; cases e
    · rintro ⟨k, hk⟩; exact absurd ⟨k, x, hk⟩ h
/-- behind a step of a scope -/
noncomputable def scopeK (P : Program) (cfg : Cfg) (b : Code) : Ex × St → Option (Ex × St)
  | (.goto l, st) => match findLabel b l with
    | some rest => SC P cfg b rest st
    | none => some (.goto l, st)
  | r => some r
theorem SC_eq (b c : Code) (st : St) : SC P cfg b c st = (W P cfg c st).bind (scopeK P cfg b) := by
  refine ext2 (fun x h => ?_) fun x h => ?_
  · obtain ⟨k, hk⟩ := SC_iff.1 h
    cases k with
    | zero => simp [scopeD] at hk
    | succ k =>
      simp only [scopeD] at hk
      split at hk
      · rename_i l s h1
        rw [exec_W (k + 1) _ _ _ h1]
        simp only [Option.bind_some, scopeK]
        split at hk
        · rename_i rest hl
          simp only [hl]
          exact SC_iff.2 ⟨k + 1, scopeD_le (RLe.refl _) (Nat.le_succ k) hk⟩
        · rename_i hl; simp only [hl]; exact hk
      · rename_i hn
        rw [exec_W (k + 1) _ _ _ hk]
        obtain ⟨e, s⟩ := x
        cases e with
        | goto l => exact absurd hk (hn l s)
        | _ => rfl
  · simp only [Option.bind_eq_some_iff] at h
    obtain ⟨⟨e, s⟩, h1, h2⟩ := h
    obtain ⟨k, hk⟩ := W_iff.1 h1
    cases e with
    | goto l =>
      simp only [scopeK] at h2
      split at h2
      · rename_i rest hl
        obtain ⟨m, hm⟩ := SC_iff.1 h2
        refine SC_iff.2 ⟨max k m + 1, ?_⟩
        have e1 := exec_le (Nat.le_trans (Nat.le_max_left k m) (Nat.le_succ _)) _ _ _ hk
        rw [scopeD, e1]
        simp only [hl]
        exact scopeD_le (exec_le (Nat.le_trans (Nat.le_max_right k m) (Nat.le_succ _))) (Nat.le_max_right k m) hm
      · rename_i hl
        refine SC_iff.2 ⟨k + 1, ?_⟩
        have e1 := exec_le (Nat.le_succ k) _ _ _ hk
        rw [scopeD, e1]
        simp only [hl]
        exact h2
    | normal => cases h2; refine SC_iff.2 ⟨k + 1, ?_⟩; have e1 := exec_le (Nat.le_succ k) _ _ _ hk; rw [scopeD, e1]
    | exit i => cases h2; refine SC_iff.2 ⟨k + 1, ?_⟩; have e1 := exec_le (Nat.le_succ k) _ _ _ hk; rw [scopeD, e1]
    | ret => cases h2; refine SC_iff.2 ⟨k + 1, ?_⟩; have e1 := exec_le (Nat.le_succ k) _ _ _ hk; rw [scopeD, e1]
theorem Wscope (b : Code) (st : St) : W P cfg (.scope b) st = SC P cfg b b st := by
  refine ext2 (fun x h => ?_) fun x h => ?_
  · obtain ⟨k, hk⟩ := W_iff.1 h
    cases k with
    | zero => simp [exec] at hk
    | succ k => rw [ex_scope] at hk; exact SC_iff.2 ⟨k, hk⟩
  · obtain ⟨k, hk⟩ := SC_iff.1 h
    exact W_iff.2 ⟨k + 1, by rw [ex_scope]; exact hk⟩
theorem scopeK_normal (b st) : scopeK P cfg b (.normal, st) = some (.normal, st) := rfl
theorem scopeK_ret (b st) : scopeK P cfg b (.ret, st) = some (.ret, st) := rfl
theorem scopeK_exit (b i st) : scopeK P cfg b (.exit i, st) = some (.exit i, st) := rfl
theorem scopeK_goto (b : Code) (l : Nat) (st : St) {rest : Code} (h : findLabel b l = some rest) : scopeK P cfg b (.goto l, st) = SC P cfg b rest st := by simp only [scopeK, h]
theorem blockK_goto (id l st) : blockK id (.goto l, st) = some (.goto l, st) := rfl
theorem loopK_goto (b : Code) (l st) : loopK P cfg b (.goto l, st) = some (.goto l, st) := rfl
/-- the first scope of a function -/
def scopeIn : Code → Option Code
  | .seq a b => (scopeIn a).or (scopeIn b)
  | .cond _ a b => (scopeIn a).or (scopeIn b)
  | .block _ a => scopeIn a
  | .loop a => scopeIn a
  | .scope a => some a
  | _ => none
def scopeAt (f : Func) : Code := (f.body.bind scopeIn).getD .skip
def restAt (f : Func) (l : Nat) : Code := (findLabel (scopeAt f) l).getD .skip
end
end Go.Proofs.YtlpadffinfijgaaW.Vm
