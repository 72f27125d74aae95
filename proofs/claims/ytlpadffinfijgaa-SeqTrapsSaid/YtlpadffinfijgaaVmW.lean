/- The plain machine without a bound on its steps, and its laws as equations. No conditions. -/
import Derived.Test.YtlpadffinfijgaaVmDef
set_option linter.unusedVariables false
set_option linter.unusedSimpArgs false
namespace Go.Proofs.YtlpadffinfijgaaW.Vm
open Go

section
variable {P : Program} {cfg : Cfg}
def RLe (r r' : Run) : Prop := ∀ c st x, r c st = some x → r' c st = some x
theorem RLe.refl (r : Run) : RLe r r := fun _ _ _ h => h
theorem RLe.trans {a b c : Run} (h : RLe a b) (k : RLe b c) : RLe a c := fun _ _ _ x => k _ _ _ (h _ _ _ x)

theorem body_le {r r' : Run} (h : RLe r r') {f : FuncId} {args : List D} {hp : List Ob} {x} (hb : body P r f args hp = some x) : body P r' f args hp = some x := by
  unfold body at hb ⊢
  split at hb
  · cases hb
  · rename_i fn hf
    try simp only [hf]
    split at hb
    · cases hb
    · rename_i c hc
      try simp only [hc]
      split at hb
      · cases hb
      · rename_i hn
        rw [if_neg hn]
        split at hb
        · rename_i st he; rw [h _ _ _ he]; exact hb
        · rename_i st he; rw [h _ _ _ he]; exact hb
        · cases hb
theorem fnc_le {r r' : Run} (h : RLe r r') {f : FuncId} {args : List D} {x} (hb : fnc P cfg r f args = some x) : fnc P cfg r' f args = some x := by
  unfold fnc at hb ⊢
  split at hb
  · exact hb
  · split at hb
    · rename_i he; rw [body_le h he]; exact hb
    · cases hb
theorem callD_le {r r' : Run} (h : RLe r r') {f : FuncId} {args : List D} {hp : List Ob} {x} (hb : callD P cfg r hp f args = some x) : callD P cfg r' hp f args = some x := by
  unfold callD at hb ⊢
  split at hb
  · rename_i hs; rw [if_pos hs]; exact body_le h hb
  · rename_i hs
    rw [if_neg hs]
    split at hb
    · rename_i as ha
      try simp only [ha]
      split at hb
      · rename_i hc
        rw [if_pos hc]
        split at hb
        · rename_i r2 hr; rw [fnc_le h hr]; exact hb
        · cases hb
      · cases hb
    · cases hb
theorem opD_le {r r' : Run} (h : RLe r r') {o : Oper} {st : St} {x} (hb : opD P cfg r o st = some x) : opD P cfg r' o st = some x := by
  unfold opD at hb ⊢
  simp only at hb ⊢
  split at hb
  case h_23 cl ho =>
    split at hb
    · exact hb
    · split at hb
      · exact callD_le h hb
      · cases hb
    · cases hb
  all_goals exact hb
theorem stepD_le {r r' : Run} (h : RLe r r') {ops : Array Oper} {o : Oper} {st : St} {x} (hb : stepD P cfg r ops o st = some x) : stepD P cfg r' ops o st = some x := by
  unfold stepD at hb ⊢
  split at hb
  · split at hb
    · rename_i ho; rw [opD_le h ho]; exact hb
    · cases hb
  · exact hb
  · cases hb
theorem opsD_le {r r' : Run} (h : RLe r r') {ops : Array Oper} : ∀ {l : List Oper} {st : St} {x}, opsD P cfg r ops l st = some x → opsD P cfg r' ops l st = some x
  | [], st, x, hb => hb
  | o :: l, st, x, hb => by
    simp only [opsD] at hb ⊢
    split at hb
    · rename_i he; rw [stepD_le h he]; exact opsD_le h hb
    · cases hb
theorem drawOps_le {r r' : Run} (h : RLe r r') {ops : Array Oper} : ∀ {l : List (Oper × Nat)} {st : St} {ls es x}, drawOps P cfg r ops l st ls es = some x → drawOps P cfg r' ops l st ls es = some x
  | [], st, ls, es, x, hb => hb
  | (o, i) :: l, st, ls, es, x, hb => by
    simp only [drawOps] at hb ⊢
    split at hb
    · rename_i hw he; rw [hw, stepD_le h he]; exact drawOps_le h hb
    · cases hb
theorem regionD_le {r r' : Run} (h : RLe r r') {ops : Array Oper} {dr : Bool} {st : St} {x} (hb : regionD P cfg r ops dr st = some x) : regionD P cfg r' ops dr st = some x := by
  unfold regionD at hb ⊢
  split at hb
  · rename_i hd
    rw [if_pos hd]
    split at hb
    · rename_i un hu
      try simp only [hu]
      split at hb
      · rename_i he; rw [drawOps_le h he]; exact hb
      · cases hb
    · cases hb
  · rename_i hd; rw [if_neg hd]; exact opsD_le h hb
theorem scopeD_le {r r' : Run} (h : RLe r r') {b : Code} : ∀ {m m' : Nat}, m ≤ m' → ∀ {c : Code} {st : St} {x}, scopeD r b m c st = some x → scopeD r' b m' c st = some x
  | 0, m', _, c, st, x, hb => by simp [scopeD] at hb
  | m + 1, 0, hm, c, st, x, hb => by omega
  | m + 1, m' + 1, hm, c, st, x, hb => by
    simp only [scopeD] at hb ⊢
    split at hb
    · rename_i l s1 he
      rw [h _ _ _ he]
      simp only
      split at hb
      · rename_i hl; try simp only [hl]
        exact scopeD_le h (by omega) hb
      · rename_i hl; try simp only [hl]
        exact hb
    · rename_i hn
      rw [h _ _ _ hb]
      obtain ⟨e, s⟩ := x
      cases e with
      | goto l => exact absurd hb (hn l s)
      | _ => rfl
theorem ex_region (k id : Nat) (ops : Array Oper) (dr : Bool) (st : St) : exec P cfg (k + 1) (.region id ops dr) st = (regionD P cfg (exec P cfg k) ops dr st).map fun s => (.normal, s) := rfl
theorem ex_seq (k : Nat) (a b : Code) (st : St) : exec P cfg (k + 1) (.seq a b) st = match exec P cfg k a st with | some (.normal, st') => exec P cfg k b st' | r => r := rfl
theorem ex_cond (k : Nat) (y : Operand) (a b : Code) (st : St) : exec P cfg (k + 1) (.cond y a b) st = match ev st.σ y with | some (.bool true) => exec P cfg k a st | some (.bool false) => exec P cfg k b st | _ => none := rfl
theorem ex_block (k id : Nat) (b : Code) (st : St) : exec P cfg (k + 1) (.block id b) st = match exec P cfg k b st with | some (.exit i, st') => some (if i = id then .normal else .exit i, st') | r => r := rfl
theorem ex_loop (k : Nat) (b : Code) (st : St) : exec P cfg (k + 1) (.loop b) st = match exec P cfg k b st with | some (.normal, st') => exec P cfg k (.loop b) st' | r => r := rfl
theorem ex_scope (k : Nat) (b : Code) (st : St) : exec P cfg (k + 1) (.scope b) st = scopeD (exec P cfg k) b k b st := rfl
theorem exec_le1 : ∀ k : Nat, RLe (exec P cfg k) (exec P cfg (k + 1))
  | 0 => fun c st x h => by simp [exec] at h
  | k + 1 => fun c st x h => by
    have ih := exec_le1 k
    cases c with
    | skip => simpa only [exec] using h
    | label => simpa only [exec] using h
    | region id ops dr =>
      rw [ex_region] at h ⊢
      simp only [Option.map_eq_some_iff] at h ⊢
      obtain ⟨s, h, e⟩ := h
      exact ⟨s, regionD_le ih h, e⟩
    | seq a b =>
      rw [ex_seq] at h ⊢
      split at h
      · rename_i s he; rw [ih _ _ _ he]; exact ih _ _ _ h
      · rename_i hn
        rw [ih _ _ _ h]
        obtain ⟨e, s⟩ := x
        cases e with
        | normal => exact absurd h (hn s)
        | _ => rfl
    | cond y a b =>
      rw [ex_cond] at h ⊢
      split at h
      · rename_i he; try simp only [he]
        exact ih _ _ _ h
      · rename_i he; try simp only [he]
        exact ih _ _ _ h
      · cases h
    | block id b =>
      rw [ex_block] at h ⊢
      split at h
      · rename_i i s he; rw [ih _ _ _ he]; exact h
      · rename_i hn
        rw [ih _ _ _ h]
        obtain ⟨e, s⟩ := x
        cases e with
        | exit i => exact absurd h (hn i s)
        | _ => rfl
    | loop b =>
      rw [ex_loop] at h ⊢
      split at h
      · rename_i s he; rw [ih _ _ _ he]; exact ih _ _ _ h
      · rename_i hn
        rw [ih _ _ _ h]
        obtain ⟨e, s⟩ := x
        cases e with
        | normal => exact absurd h (hn s)
        | _ => rfl
    | scope b =>
      rw [ex_scope] at h ⊢
      exact scopeD_le ih (Nat.le_succ k) h
    | exit => simpa only [exec] using h
    | goto => simpa only [exec] using h
    | ret => simpa only [exec] using h
    | refuse => simp [exec] at h
    | rangeFunc => simp [exec] at h
theorem exec_le {k m : Nat} (h : k ≤ m) : RLe (exec P cfg k) (exec P cfg m) := by
  induction h with
  | refl => exact .refl _
  | step _ ih => exact ih.trans (exec_le1 _)
end

open Classical in
/-- the machine without a bound -/
noncomputable def W (P : Program) (cfg : Cfg) : Run := fun c st => if h : ∃ k x, exec P cfg k c st = some x then some h.choose_spec.choose else none

section
variable {P : Program} {cfg : Cfg}
theorem W_iff {c : Code} {st : St} {x} : W P cfg c st = some x ↔ ∃ k, exec P cfg k c st = some x := by
  unfold W
  split
  · rename_i h
    have hs := h.choose_spec.choose_spec
    generalize h.choose_spec.choose = y at hs ⊢
    generalize h.choose = k at hs
    constructor
    · intro e; simp only [Option.some.injEq] at e; subst e; exact ⟨k, hs⟩
    · rintro ⟨m, hm⟩
      have h1 := exec_le (Nat.le_max_left k m) _ _ _ hs
      have h2 := exec_le (Nat.le_max_right k m) _ _ _ hm
      rw [h1] at h2
      exact h2
  · rename_i h
    constructor
    · intro e; cases e
    · rintro ⟨k, hk⟩; exact absurd ⟨k, x, hk⟩ h
theorem exec_W (k : Nat) : RLe (exec P cfg k) (W P cfg) := fun _ _ _ h => W_iff.2 ⟨k, h⟩
theorem ext2 {α : Type} {a b : Option α} (h1 : ∀ x, a = some x → b = some x) (h2 : ∀ x, b = some x → a = some x) : a = b := by
  cases a with
  | none => cases b with
    | none => rfl
    | some y => exact (h2 y rfl)
  | some x => exact (h1 x rfl).symm

/-! what is done without a bound is done within one -/
theorem body_k {f : FuncId} {args : List D} {hp : List Ob} {x} (hb : body P (W P cfg) f args hp = some x) : ∃ k, body P (exec P cfg k) f args hp = some x := by
  unfold body at hb
  split at hb
  · cases hb
  · rename_i fn hf
    split at hb
    · cases hb
    · rename_i c hc
      split at hb
      · cases hb
      · rename_i hn
        split at hb
        · rename_i st he
          obtain ⟨k, hk⟩ := W_iff.1 he
          exact ⟨k, by unfold body; simp only [hf, hc]; rw [if_neg hn, hk]; exact hb⟩
        · rename_i st he
          obtain ⟨k, hk⟩ := W_iff.1 he
          exact ⟨k, by unfold body; simp only [hf, hc]; rw [if_neg hn, hk]; exact hb⟩
        · cases hb
theorem fnc_k {cfg' : Cfg} {f : FuncId} {args : List D} {x} (hb : fnc P cfg' (W P cfg) f args = some x) : ∃ k, fnc P cfg' (exec P cfg k) f args = some x := by
  unfold fnc at hb
  split at hb
  · rename_i g hg; exact ⟨0, by unfold fnc; simp only [hg]; exact hb⟩
  · rename_i hg
    split at hb
    · rename_i d h he
      obtain ⟨k, hk⟩ := body_k he
      exact ⟨k, by unfold fnc; simp only [hg, hk]; exact hb⟩
    · cases hb
theorem callD_k {cfg' : Cfg} {f : FuncId} {args : List D} {hp : List Ob} {x} (hb : callD P cfg' (W P cfg) hp f args = some x) : ∃ k, callD P cfg' (exec P cfg k) hp f args = some x := by
  unfold callD at hb
  split at hb
  · rename_i hs
    obtain ⟨k, hk⟩ := body_k hb
    exact ⟨k, by unfold callD; rw [if_pos hs]; exact hk⟩
  · rename_i hs
    split at hb
    · rename_i as ha
      split at hb
      · rename_i hc
        split at hb
        · rename_i r hr
          obtain ⟨k, hk⟩ := fnc_k hr
          exact ⟨k, by unfold callD; rw [if_neg hs]; simp only [ha]; rw [if_pos hc, hk]; exact hb⟩
        · cases hb
      · cases hb
    · cases hb
theorem opD_k {cfg' : Cfg} {o : Oper} {st : St} {x} (hb : opD P cfg' (W P cfg) o st = some x) : ∃ k, opD P cfg' (exec P cfg k) o st = some x := by
  unfold opD at hb ⊢
  simp only at hb ⊢
  split at hb
  case h_23 cl ho =>
    split at hb
    · exact ⟨0, hb⟩
    · split at hb
      · exact callD_k hb
      · cases hb
    · cases hb
  all_goals exact ⟨0, hb⟩
theorem stepD_k {cfg' : Cfg} {ops : Array Oper} {o : Oper} {st : St} {x} (hb : stepD P cfg' (W P cfg) ops o st = some x) : ∃ k, stepD P cfg' (exec P cfg k) ops o st = some x := by
  unfold stepD at hb ⊢
  split at hb
  · split at hb
    · rename_i ho
      obtain ⟨k, hk⟩ := opD_k ho
      exact ⟨k, by rw [hk]; exact hb⟩
    · cases hb
  · exact ⟨0, hb⟩
  · cases hb
theorem opsD_k {cfg' : Cfg} {ops : Array Oper} : ∀ {l : List Oper} {st : St} {x}, opsD P cfg' (W P cfg) ops l st = some x → ∃ k, opsD P cfg' (exec P cfg k) ops l st = some x
  | [], st, x, hb => ⟨0, hb⟩
  | o :: l, st, x, hb => by
    simp only [opsD] at hb ⊢
    split at hb
    · rename_i he
      obtain ⟨k, hk⟩ := stepD_k he
      obtain ⟨m, hm⟩ := opsD_k hb
      exact ⟨max k m, by rw [stepD_le (exec_le (Nat.le_max_left k m)) hk]; exact opsD_le (exec_le (Nat.le_max_right k m)) hm⟩
    · cases hb
theorem drawOps_k {cfg' : Cfg} {ops : Array Oper} : ∀ {l : List (Oper × Nat)} {st : St} {ls es x}, drawOps P cfg' (W P cfg) ops l st ls es = some x → ∃ k, drawOps P cfg' (exec P cfg k) ops l st ls es = some x
  | [], st, ls, es, x, hb => ⟨0, hb⟩
  | (o, i) :: l, st, ls, es, x, hb => by
    simp only [drawOps] at hb ⊢
    split at hb
    · rename_i hw he
      obtain ⟨k, hk⟩ := stepD_k he
      obtain ⟨m, hm⟩ := drawOps_k hb
      exact ⟨max k m, by rw [hw, stepD_le (exec_le (Nat.le_max_left k m)) hk]; exact drawOps_le (exec_le (Nat.le_max_right k m)) hm⟩
    · cases hb
theorem regionD_k {ops : Array Oper} {dr : Bool} {st : St} {x} (hb : regionD P cfg (W P cfg) ops dr st = some x) : ∃ k, regionD P cfg (exec P cfg k) ops dr st = some x := by
  unfold regionD at hb ⊢
  split at hb
  · rename_i hd
    split at hb
    · rename_i un hu
      split at hb
      · rename_i he
        obtain ⟨k, hk⟩ := drawOps_k he
        exact ⟨k, by rw [if_pos hd]; simp only [hu, hk]; exact hb⟩
      · cases hb
    · cases hb
  · rename_i hd
    obtain ⟨k, hk⟩ := opsD_k hb
    exact ⟨k, by rw [if_neg hd]; exact hk⟩

/-! the machine's equations -/
theorem W_skip (st : St) : W P cfg .skip st = some (.normal, st) := W_iff.2 ⟨1, rfl⟩
theorem W_label (l : Nat) (st : St) : W P cfg (.label l) st = some (.normal, st) := W_iff.2 ⟨1, rfl⟩
theorem W_exit (l : Nat) (st : St) : W P cfg (.exit l) st = some (.exit l, st) := W_iff.2 ⟨1, rfl⟩
theorem W_goto (l : Nat) (st : St) : W P cfg (.goto l) st = some (.goto l, st) := W_iff.2 ⟨1, rfl⟩
theorem W_ret (st : St) : W P cfg .ret st = some (.ret, st) := W_iff.2 ⟨1, rfl⟩
theorem W_region (id : Nat) (ops : Array Oper) (dr : Bool) (st : St) : W P cfg (.region id ops dr) st = (regionD P cfg (W P cfg) ops dr st).map fun s => (.normal, s) := by
  refine ext2 (fun x h => ?_) fun x h => ?_
  · obtain ⟨k, hk⟩ := W_iff.1 h
    cases k with
    | zero => simp [exec] at hk
    | succ k =>
      simp only [exec, Option.map_eq_some_iff] at hk ⊢
      obtain ⟨s, h1, h2⟩ := hk
      exact ⟨s, regionD_le (exec_W k) h1, h2⟩
  · simp only [Option.map_eq_some_iff] at h
    obtain ⟨s, h1, h2⟩ := h
    obtain ⟨k, hk⟩ := regionD_k h1
    exact W_iff.2 ⟨k + 1, by simp only [exec, hk, Option.map_some, h2]⟩
theorem W_seq (a b : Code) (st : St) : W P cfg (.seq a b) st = match W P cfg a st with | some (.normal, st') => W P cfg b st' | r => r := by
  refine ext2 (fun x h => ?_) fun x h => ?_
  · obtain ⟨k, hk⟩ := W_iff.1 h
    cases k with
    | zero => simp [exec] at hk
    | succ k =>
      simp only [exec] at hk
      split at hk
      · rename_i s h1; rw [exec_W k _ _ _ h1]; exact exec_W k _ _ _ hk
      · rename_i hn
        rw [exec_W k _ _ _ hk]
        obtain ⟨e, s⟩ := x
        cases e with
        | normal => exact absurd hk (hn s)
        | _ => rfl
  · split at h
    · rename_i s h1
      obtain ⟨k, hk⟩ := W_iff.1 h1
      obtain ⟨m, hm⟩ := W_iff.1 h
      refine W_iff.2 ⟨max k m + 1, ?_⟩
      simp only [exec, exec_le (Nat.le_max_left k m) _ _ _ hk, exec_le (Nat.le_max_right k m) _ _ _ hm]
    · rename_i hn
      obtain ⟨k, hk⟩ := W_iff.1 h
      refine W_iff.2 ⟨k + 1, ?_⟩
      simp only [exec, hk]
      obtain ⟨e, s⟩ := x
      cases e with
      | normal => exact absurd h (hn s)
      | _ => rfl
theorem W_cond (y : Operand) (a b : Code) (st : St) : W P cfg (.cond y a b) st = match ev st.σ y with | some (.bool true) => W P cfg a st | some (.bool false) => W P cfg b st | _ => none := by
  refine ext2 (fun x h => ?_) fun x h => ?_
  · obtain ⟨k, hk⟩ := W_iff.1 h
    cases k with
    | zero => simp [exec] at hk
    | succ k =>
      simp only [exec] at hk
      split at hk
      · rename_i he; simp only [he]; exact exec_W k _ _ _ hk
      · rename_i he; simp only [he]; exact exec_W k _ _ _ hk
      · cases hk
  · split at h
    · rename_i h1
      obtain ⟨k, hk⟩ := W_iff.1 h
      exact W_iff.2 ⟨k + 1, by simp only [exec, h1, hk]⟩
    · rename_i h1
      obtain ⟨k, hk⟩ := W_iff.1 h
      exact W_iff.2 ⟨k + 1, by simp only [exec, h1, hk]⟩
    · cases h
theorem W_block (id : Nat) (b : Code) (st : St) : W P cfg (.block id b) st = match W P cfg b st with | some (.exit i, st') => some (if i = id then .normal else .exit i, st') | r => r := by
  refine ext2 (fun x h => ?_) fun x h => ?_
  · obtain ⟨k, hk⟩ := W_iff.1 h
    cases k with
    | zero => simp [exec] at hk
    | succ k =>
      simp only [exec] at hk
      split at hk
      · rename_i i s h1; rw [exec_W k _ _ _ h1]; exact hk
      · rename_i hn
        rw [exec_W k _ _ _ hk]
        obtain ⟨e, s⟩ := x
        cases e with
        | exit i => exact absurd hk (hn i s)
        | _ => rfl
  · split at h
    · rename_i i s h1
      obtain ⟨k, hk⟩ := W_iff.1 h1
      exact W_iff.2 ⟨k + 1, by simp only [exec, hk, h]⟩
    · rename_i hn
      obtain ⟨k, hk⟩ := W_iff.1 h
      refine W_iff.2 ⟨k + 1, ?_⟩
      simp only [exec, hk]
      obtain ⟨e, s⟩ := x
      cases e with
      | exit i => exact absurd h (hn i s)
      | _ => rfl
theorem W_loop (b : Code) (st : St) : W P cfg (.loop b) st = match W P cfg b st with | some (.normal, st') => W P cfg (.loop b) st' | r => r := by
  refine ext2 (fun x h => ?_) fun x h => ?_
  · obtain ⟨k, hk⟩ := W_iff.1 h
    cases k with
    | zero => simp [exec] at hk
    | succ k =>
      simp only [exec] at hk
      split at hk
      · rename_i s h1; rw [exec_W k _ _ _ h1]; exact exec_W k _ _ _ hk
      · rename_i hn
        rw [exec_W k _ _ _ hk]
        obtain ⟨e, s⟩ := x
        cases e with
        | normal => exact absurd hk (hn s)
        | _ => rfl
  · split at h
    · rename_i s h1
      obtain ⟨k, hk⟩ := W_iff.1 h1
      obtain ⟨m, hm⟩ := W_iff.1 h
      refine W_iff.2 ⟨max k m + 1, ?_⟩
      simp only [exec, exec_le (Nat.le_max_left k m) _ _ _ hk, exec_le (Nat.le_max_right k m) _ _ _ hm]
    · rename_i hn
      obtain ⟨k, hk⟩ := W_iff.1 h
      refine W_iff.2 ⟨k + 1, ?_⟩
      simp only [exec, hk]
      obtain ⟨e, s⟩ := x
      cases e with
      | normal => exact absurd h (hn s)
      | _ => rfl
end
end Go.Proofs.YtlpadffinfijgaaW.Vm
