/- Code of the plain machine is the model's: regions in order, loops, blocks, gotos. No conditions. -/
import Derived.Test.YtlpadffinfijgaaVmOp
import Derived.Scope
set_option linter.unusedVariables false
set_option linter.unusedSimpArgs false
namespace Go.Proofs.YtlpadffinfijgaaW.Vm
open Go Go.RowKit

section
variable {P : Program} {cfg : Cfg} {ds : List Deferred}

theorem yielded_of {c : Cx} {st : St} {a : Act} (ht : ∀ t, RV c (st.σ t) (a.tmps.getD t undef)) {ops : Array Oper} {o : Oper} {b : Bool} (h : wantD ops o st.σ = some b) : Region.wanted o (yielded ops a.tmps) = b := by
  unfold wantD at h
  unfold Region.wanted
  split at h
  · rename_i hg
    simp only [Option.some.injEq] at h; subst h
    rw [hg]
  · rename_i j want hg
    rw [hg]
    split at h
    · rename_i t hj
      split at h
      · rename_i b' hb
        simp only [Option.some.injEq] at h; subst h
        have hv := ht t
        rw [hb] at hv
        have hv := hv.bool
        have : a.tmps[t]? = some (.bool b') := by
          rw [Array.getD_eq_getD_getElem?] at hv
          cases hq : a.tmps[t]? with
          | none => rw [hq] at hv; simp [undef] at hv
          | some u => rw [hq] at hv; simpa using hv
        show (yielded ops a.tmps j == some want) = (b' == want)
        unfold yielded
        rw [hj, Option.bind_some, this]
        simp
      · rename_i hb
        simp only [Option.some.injEq] at h; subst h
        have hv := ht t
        rw [hb] at hv
        have hv : a.tmps.getD t undef = .tuple #[] := by
          generalize a.tmps.getD t undef = u at hv
          cases hv with
          | cl h => cases h with | tup h => rename_i vs; cases vs with | mk l => cases h; rfl
          | tup h => rename_i vs; cases vs with | mk l => cases h; rfl
        show (yielded ops a.tmps j == some want) = false
        unfold yielded
        rw [hj, Option.bind_some]
        rw [Array.getD_eq_getD_getElem?] at hv
        cases hq : a.tmps[t]? with
        | none => rfl
        | some u =>
          rw [hq] at hv
          have hv : u = .tuple #[] := hv
          subst hv; rfl
      · cases h
    · cases h

theorem put_sr {c : Cx} {st st' : St} {a : Act} {v : Value} {d : D} {dst : Option Tmp} (hd : a.defers = ds) (hn : a.tmps.size = st.n) (ht : ∀ t, RV c (st.σ t) (a.tmps.getD t undef)) (hv : RV c d v)
    (h : put st dst d = some st') : (a.put dst v).defers = ds ∧ (a.put dst v).tmps.size = st'.n ∧ (∀ t, RV c (st'.σ t) ((a.put dst v).tmps.getD t undef)) ∧ st'.h = st.h := by
  cases dst with
  | none => simp only [put, Option.some.injEq] at h; subst h; exact ⟨hd, hn, ht, rfl⟩
  | some t =>
    simp only [put] at h
    split at h
    · rename_i hlt
      simp only [Option.some.injEq] at h; subst h
      refine ⟨hd, by simpa [Act.put] using hn, fun u => ?_, rfl⟩
      simp only [Act.put, upd]
      rw [Array.getD_eq_getD_getElem?, Array.getElem?_setIfInBounds]
      split
      · rename_i hu
        subst hu
        rw [if_pos rfl, if_pos (by omega)]
        exact hv
      · rename_i hu
        rw [if_neg (fun h => hu h.symm), ← Array.getD_eq_getD_getElem?]
        exact ht u
    · cases h

theorem put_h {st st' : St} {dst : Option Tmp} {d : D} (h : put st dst d = some st') : st'.h = st.h ∧ st'.n = st.n := by
  cases dst with
  | none => simp only [put, Option.some.injEq] at h; subst h; exact ⟨rfl, rfl⟩
  | some t =>
    simp only [put] at h
    split at h
    · simp only [Option.some.injEq] at h; subst h; exact ⟨rfl, rfl⟩
    · cases h

/-- one operation, or what is not wanted -/
theorem step_ok {run : Run} (hrun : RunOk P run) (hext : ExtOk P cfg) {c : Cx} {a : Act} {ops : Array Oper} {i : Nat} {o : Oper} {st st' : St} (hr : HR c) (hs : SR ds c st a) (hfree : Free c st.h st'.h) (hi : ops[i]? = some o)
    (h : stepD P cfg run ops o st = some st') {Q : Exit → Act → World → Prop} : wpOp P ops Q i (fun a' w' => ∃ c', c'.w = w' ∧ Step c st.h c' st'.h ∧ SR ds c' st' a') a c.w := by
  unfold stepD at h
  unfold wpOp
  simp only [hi]
  split at h
  · rename_i hw
    rw [yielded_of hs.2.2.1 hw, if_pos rfl]
    split at h
    · rename_i d h' hop
      have hh := (put_h h).1
      simp only at hh
      refine .inl (Oper.wp_mono ?_ (opD_ok hrun hext hr hs (by rw [← hh]; exact hfree) hop))
      rintro a' w' ⟨v, c', rfl, rfl, hstep, hrv⟩
      obtain ⟨hd, hn, ht, ag⟩ := hs
      obtain ⟨e1, e2, e3, e4⟩ := put_sr (st := { st with h := h' }) hd hn (fun t => hstep.rv hr (ht t)) hrv h
      refine ⟨c', rfl, by rw [hh]; exact hstep, e1, e2, e3, ?_⟩
      rw [hh]; exact hstep.ag
    · cases h
  · rename_i hw
    rw [yielded_of hs.2.2.1 hw]
    simp only [Bool.false_eq_true, if_false]
    obtain ⟨hd, hn, ht, ag⟩ := hs
    obtain ⟨e1, e2, e3, e4⟩ := put_sr hd hn ht (.tup (vs := #[]) .nil) h
    refine ⟨c, rfl, by rw [e4]; exact .refl hr ag, e1, e2, e3, by rw [e4]; exact ag⟩
  · cases h

/-! numbers of objects only grow -/
def RunLen (run : Run) : Prop := ∀ code st e st', run code st = some (e, st') → st.h.length ≤ st'.h.length
theorem body_len {run : Run} (hl : RunLen run) {f : FuncId} {args : List D} {h h' : List Ob} {d : D} (hb : body P run f args h = some (d, h')) : h.length ≤ h'.length := by
  unfold body at hb
  split at hb
  · cases hb
  · split at hb
    · cases hb
    · split at hb
      · cases hb
      · split at hb
        · rename_i st he
          simp only [Option.map_eq_some_iff, Prod.mk.injEq] at hb
          obtain ⟨_, _, _, rfl⟩ := hb
          exact hl _ _ _ _ he
        · rename_i st he
          simp only [Option.map_eq_some_iff, Prod.mk.injEq] at hb
          obtain ⟨_, _, _, rfl⟩ := hb
          exact hl _ _ _ _ he
        · cases hb
theorem callD_len {run : Run} (hl : RunLen run) {f : FuncId} {args : List D} {h h' : List Ob} {d : D} (hb : callD P cfg run h f args = some (d, h')) : h.length ≤ h'.length := by
  unfold callD at hb
  split at hb
  · exact body_len hl hb
  · split at hb
    · split at hb
      · split at hb
        · split at hb
          · simp only [Option.some.injEq, Prod.mk.injEq] at hb
            obtain ⟨_, rfl⟩ := hb
            exact Nat.le_refl _
          · split at hb
            · cases hb
            · simp only [Option.some.injEq, Prod.mk.injEq] at hb
              obtain ⟨_, rfl⟩ := hb
              simp [frzAll_len]
        · cases hb
      · cases hb
    · cases hb
theorem stD_len {h h' : List Ob} {t : TypeId} {p v : D} (hb : stD P h t p v = some h') : h.length ≤ h'.length := by
  unfold stD at hb
  split at hb
  · split at hb
    · split at hb
      · split at hb
        · simp only [Option.map_eq_some_iff] at hb
          obtain ⟨_, _, rfl⟩ := hb
          simp
        · cases hb
      · cases hb
    · cases hb
  · cases hb
theorem sliceD_len {h h' : List Ob} {t : TypeId} {x d : D} {lo hi mx : Option D} (hb : sliceD P h t x lo hi mx = some (d, h')) : h.length ≤ h'.length := by
  unfold sliceD at hb
  (repeat' split at hb) <;> first | (cases hb; done) | (simp only [Option.some.injEq, Prod.mk.injEq] at hb; obtain ⟨_, rfl⟩ := hb; first | exact Nat.le_refl _ | simp)
theorem appendD_len {h h' : List Ob} {ats : Array TypeId} {x y d : D} (hb : appendD P h ats x y = some (d, h')) : h.length ≤ h'.length := by
  unfold appendD at hb
  (repeat' split at hb) <;> first | (cases hb; done) | (simp only [Option.some.injEq, Prod.mk.injEq] at hb; obtain ⟨_, rfl⟩ := hb; first | exact Nat.le_refl _ | simp [newOb])
theorem copyD_len {h h' : List Ob} {ats : Array TypeId} {x y d : D} (hb : copyD P h ats x y = some (d, h')) : h.length ≤ h'.length := by
  unfold copyD at hb
  simp only at hb
  (repeat' split at hb) <;> first | (cases hb; done) | (simp only [Option.some.injEq, Prod.mk.injEq] at hb; obtain ⟨_, rfl⟩ := hb; first | exact Nat.le_refl _ | simp)
theorem makeSliceD_len {h h' : List Ob} {t : TypeId} {x y d : D} (hb : makeSliceD P h t x y = some (d, h')) : h.length ≤ h'.length := by
  unfold makeSliceD at hb
  (repeat' split at hb) <;> first | (cases hb; done) | (simp only [Option.some.injEq, Prod.mk.injEq] at hb; obtain ⟨_, rfl⟩ := hb; first | exact Nat.le_refl _ | simp [newOb])
theorem builtinD_len {h h' : List Ob} {b : Builtin} {ats : Array TypeId} {ty : TypeId} {args : List D} {d : D} (hb : builtinD P h b ats ty args = some (d, h')) : h.length ≤ h'.length := by
  unfold builtinD at hb
  (repeat' split at hb) <;> first
    | (cases hb; done)
    | exact appendD_len hb
    | exact copyD_len hb
    | (simp only [Option.map_eq_some_iff, Option.some.injEq, Prod.mk.injEq] at hb; obtain ⟨_, _, _, rfl⟩ := hb; exact Nat.le_refl _)
    | (simp only [Option.some.injEq, Prod.mk.injEq] at hb; obtain ⟨_, rfl⟩ := hb; exact Nat.le_refl _)
theorem opD_len {run : Run} (hl : RunLen run) {o : Oper} {st : St} {d : D} {h' : List Ob} (hb : opD P cfg run o st = some (d, h')) : st.h.length ≤ h'.length := by
  unfold opD at hb
  simp only at hb
  (repeat' split at hb) <;> first
    | (cases hb; done)
    | exact makeSliceD_len hb
    | exact sliceD_len hb
    | exact builtinD_len hb
    | exact callD_len hl hb
    | (simp only [Option.map_eq_some_iff, Prod.mk.injEq] at hb; obtain ⟨_, h1, _, rfl⟩ := hb; exact stD_len h1)
    | (simp only [Option.map_eq_some_iff, Prod.mk.injEq] at hb; obtain ⟨_, _, _, rfl⟩ := hb; first | exact Nat.le_refl _ | (simp [newOb]; done))
    | (simp only [Option.some.injEq, Prod.mk.injEq] at hb; obtain ⟨_, rfl⟩ := hb; first | exact Nat.le_refl _ | (simp [newOb]; done))
    | (simp only [Option.bind_eq_some_iff] at hb; obtain ⟨_, _, hb⟩ := hb; split at hb <;> first | (cases hb; done) | (simp only [Option.some.injEq, Prod.mk.injEq] at hb; obtain ⟨_, rfl⟩ := hb; exact Nat.le_refl _))
theorem stepD_len {run : Run} (hl : RunLen run) {ops : Array Oper} {o : Oper} {st st' : St} (h : stepD P cfg run ops o st = some st') : st.h.length ≤ st'.h.length := by
  unfold stepD at h
  split at h
  · split at h
    · rename_i hop
      rw [(put_h h).1]; exact opD_len hl hop
    · cases h
  · rw [(put_h h).1]; exact Nat.le_refl _
  · cases h
theorem opsD_len {run : Run} (hl : RunLen run) {ops : Array Oper} : ∀ (l : List Oper) {st st' : St}, opsD P cfg run ops l st = some st' → st.h.length ≤ st'.h.length
  | [], st, st', h => by simp only [opsD, Option.some.injEq] at h; subst h; exact Nat.le_refl _
  | o :: l, st, st', h => by
    simp only [opsD] at h
    split at h
    · rename_i h1
      exact Nat.le_trans (stepD_len hl h1) (opsD_len hl l h)
    · cases h
theorem drawOps_len {run : Run} (hl : RunLen run) {ops : Array Oper} : ∀ (l : List (Oper × Nat)) {st st' : St} {ls ls' : List LdR} {es es' : List EfR}, drawOps P cfg run ops l st ls es = some (st', ls', es') → st.h.length ≤ st'.h.length
  | [], st, st', ls, ls', es, es', h => by simp only [drawOps, Option.some.injEq, Prod.mk.injEq] at h; obtain ⟨rfl, _⟩ := h; exact Nat.le_refl _
  | (o, i) :: l, st, st', ls, ls', es, es', h => by
    simp only [drawOps] at h
    split at h
    · rename_i h1
      exact Nat.le_trans (stepD_len hl h1) (drawOps_len hl l h)
    · cases h
theorem regionD_len {run : Run} (hl : RunLen run) {ops : Array Oper} {draw : Bool} {st st' : St} (h : regionD P cfg run ops draw st = some st') : st.h.length ≤ st'.h.length := by
  unfold regionD at h
  split at h
  · split at h
    · split at h
      · rename_i h1
        split at h
        · simp only [Option.some.injEq] at h; subst h; exact drawOps_len hl _ h1
        · cases h
      · cases h
    · cases h
  · exact opsD_len hl _ h
theorem scopeD_len {run : Run} (hl : RunLen run) {b : Code} : ∀ (m : Nat) (c : Code) {st st' : St} {e : Ex}, scopeD run b m c st = some (e, st') → st.h.length ≤ st'.h.length
  | 0, c, st, st', e, h => by simp [scopeD] at h
  | m + 1, c, st, st', e, h => by
    simp only [scopeD] at h
    split at h
    · rename_i h1
      split at h
      · exact Nat.le_trans (hl _ _ _ _ h1) (scopeD_len hl m _ h)
      · simp only [Option.some.injEq, Prod.mk.injEq] at h; obtain ⟨_, rfl⟩ := h; exact hl _ _ _ _ h1
    · exact hl _ _ _ _ h
theorem exec_len : ∀ k : Nat, RunLen (exec P cfg k)
  | 0 => by intro code st e st' h; simp [exec] at h
  | k + 1 => by
    have ih := exec_len k
    intro code st e st' h
    simp only [exec] at h
    split at h
    · simp only [Option.some.injEq, Prod.mk.injEq] at h; obtain ⟨_, rfl⟩ := h; exact Nat.le_refl _
    · simp only [Option.some.injEq, Prod.mk.injEq] at h; obtain ⟨_, rfl⟩ := h; exact Nat.le_refl _
    · simp only [Option.map_eq_some_iff, Prod.mk.injEq] at h
      obtain ⟨s, h1, _, rfl⟩ := h
      exact regionD_len ih h1
    · split at h
      · rename_i h1; exact Nat.le_trans (ih _ _ _ _ h1) (ih _ _ _ _ h)
      · exact ih _ _ _ _ h
    · split at h
      · exact ih _ _ _ _ h
      · exact ih _ _ _ _ h
      · cases h
    · split at h
      · rename_i h1
        simp only [Option.some.injEq, Prod.mk.injEq] at h; obtain ⟨_, rfl⟩ := h; exact ih _ _ _ _ h1
      · exact ih _ _ _ _ h
    · split at h
      · rename_i h1; exact Nat.le_trans (ih _ _ _ _ h1) (ih _ _ _ _ h)
      · exact ih _ _ _ _ h
    · exact scopeD_len ih _ _ h
    · simp only [Option.some.injEq, Prod.mk.injEq] at h; obtain ⟨_, rfl⟩ := h; exact Nat.le_refl _
    · simp only [Option.some.injEq, Prod.mk.injEq] at h; obtain ⟨_, rfl⟩ := h; exact Nat.le_refl _
    · simp only [Option.some.injEq, Prod.mk.injEq] at h; obtain ⟨_, rfl⟩ := h; exact Nat.le_refl _
    · cases h

/-! regions in order -/
theorem ops_ok {run : Run} (hrun : RunOk P run) (hlen : RunLen run) (hext : ExtOk P cfg) {ops : Array Oper} {Q : Exit → Act → World → Prop} : ∀ (n k : Nat), k + n = ops.size → ∀ {c : Cx} {a : Act} {st st' : St}, HR c → SR ds c st a → Free c st.h st'.h →
    opsD P cfg run ops (ops.toList.drop k) st = some st' → (∀ a' c', Step c st.h c' st'.h → SR ds c' st' a' → Q .normal a' c'.w) → wpOps P ops Q (List.range' k n) a c.w
  | 0, k, hk, c, a, st, st', hr, hs, hfree, h, hq => by
    rw [List.drop_eq_nil_of_le (by simp; omega)] at h
    simp only [opsD, Option.some.injEq] at h; subst h
    simpa [wpOps] using hq a c (.refl hr hs.2.2.2) hs
  | n + 1, k, hk, c, a, st, st', hr, hs, hfree, h, hq => by
    have hlt : k < ops.size := by omega
    rw [List.drop_eq_getElem_cons (by simpa using hlt)] at h
    simp only [opsD] at h
    split at h
    · rename_i s1 h1
      have hl := opsD_len hlen _ h
      rw [List.range'_succ, wpOps_cons]
      refine wpOp_mono ?_ (step_ok hrun hext hr hs (hfree.left hl) (i := k) (o := ops.toList[k]'(by simpa using hlt)) (by rw [Array.getElem_toList]; exact Array.getElem?_eq_getElem hlt) h1)
      rintro a' w' ⟨c', rfl, hstep, hsr⟩
      exact ops_ok hrun hlen hext n (k + 1) (by omega) hstep.hr hsr (hfree.mid hstep hl) h fun a2 c2 hs2 hsr2 => hq a2 c2 (hstep.trans hs2) hsr2
    · cases h

def Good (ds : List Deferred) (c : Cx) (st : St) (e : Ex) (st' : St) : Exit → Act → World → Prop := fun x a' w' => x = exitOf e ∧ ∃ c', c'.w = w' ∧ Step c st.h c' st'.h ∧ SR ds c' st' a'
def DrawOk (P : Program) (cfg : Cfg) : Prop := ∀ (run : Run), RunOk P run → RunLen run → ∀ (id : Nat) (ops : Array Oper) (st st' : St), regionD P cfg run ops true st = some st' → ∀ (ds : List Deferred) (c : Cx) (a : Act), HR c → SR ds c st a → Free c st.h st'.h →
  (Code.region id ops true).wp P (Good ds c st .normal st') a c.w

/-! loops and scopes -/
def LoopWp (P : Program) (c : Code) (Q : Exit → Act → World → Prop) (a : Act) (w : World) : Prop :=
  ∀ (b : Frame) (k : List Item) (cs : List Frame), ∃ e a' w', Q e a' w' ∧ Arrives P (lone (b.at a (.code c :: .inLoop c :: k)) cs w) b k cs e a' w'
theorem loop_of {c : Code} {Q : Exit → Act → World → Prop} {a : Act} {w : World} (h : LoopWp P c Q a w) : (Code.loop c).wp P Q a w := fun b k cs => by
  obtain ⟨e, a', w', hq, harr⟩ := h b k cs
  exact ⟨e, a', w', hq, .of_steps (.one step_loop) harr⟩
theorem loop_in {c : Code} {Q : Exit → Act → World → Prop} {a : Act} {w : World} (h : c.wp P (Exit.then (LoopWp P c Q) Q) a w) : LoopWp P c Q a w := fun b k cs => by
  obtain ⟨e, a₁, w₁, hq, harr⟩ := h b (.inLoop c :: k) cs
  cases e with
  | normal =>
    obtain ⟨e₂, a₂, w₂, hq₂, harr₂⟩ := hq b k cs
    exact ⟨e₂, a₂, w₂, hq₂, .of_steps (Steps.trans harr (.one step_inLoop)) harr₂⟩
  | exit id => exact ⟨_, a₁, w₁, hq, .pass (x := .inLoop c) rfl (fun _ _ => .inl (by simp)) harr⟩
  | goto l => exact ⟨_, a₁, w₁, hq, .pass (x := .inLoop c) rfl (fun _ _ => .inl (by simp)) harr⟩
  | ret => exact ⟨_, a₁, w₁, hq, .pass (x := .inLoop c) rfl (fun _ _ => .inl (by simp)) harr⟩
  | panic ch => exact ⟨_, a₁, w₁, hq, .pass (x := .inLoop c) rfl (fun _ _ => .inl (by simp)) harr⟩
  | outgrown => exact ⟨_, a₁, w₁, hq, .pass (x := .inLoop c) rfl (fun _ _ => .inl (by simp)) harr⟩
def ScopeWp (P : Program) (cur body : Code) (Q : Exit → Act → World → Prop) (a : Act) (w : World) : Prop :=
  ∀ (b : Frame) (k : List Item) (cs : List Frame), ∃ e a' w', Q e a' w' ∧ Arrives P (lone (b.at a (.code cur :: .inScope body :: k)) cs w) b k cs e a' w'
theorem scope_of {c : Code} {Q : Exit → Act → World → Prop} {a : Act} {w : World} (h : ScopeWp P c c Q a w) : (Code.scope c).wp P Q a w := fun b k cs => by
  obtain ⟨e, a', w', hq, harr⟩ := h b k cs
  exact ⟨e, a', w', hq, .of_steps (.one step_scope) harr⟩
theorem scope_in {cur body : Code} {Q : Exit → Act → World → Prop} {a : Act} {w : World}
    (h : cur.wp P (fun e a' w' => match e with | .goto l => (match findLabel body l with | some rest => ScopeWp P rest body Q a' w' | none => Q (.goto l) a' w') | e => Q e a' w') a w) : ScopeWp P cur body Q a w := fun b k cs => by
  obtain ⟨e, a₁, w₁, hq, harr⟩ := h b (.inScope body :: k) cs
  cases e with
  | normal => exact ⟨.normal, a₁, w₁, hq, Steps.trans harr (.one step_inScope)⟩
  | exit id => exact ⟨.exit id, a₁, w₁, hq, fun k' hk => harr k' (by simp [exitTo, hk])⟩
  | goto l =>
    simp only at hq
    cases hl : findLabel body l with
    | none =>
      rw [hl] at hq
      exact ⟨.goto l, a₁, w₁, hq, fun k' hk => harr k' (by simp [gotoIn, hl, hk])⟩
    | some rest =>
      rw [hl] at hq
      obtain ⟨e₂, a₂, w₂, hq₂, harr₂⟩ := hq b k cs
      exact ⟨e₂, a₂, w₂, hq₂, .of_steps (harr _ (by simp [gotoIn, hl])) harr₂⟩
  | ret => exact ⟨_, a₁, w₁, hq, harr⟩
  | panic ch => exact ⟨_, a₁, w₁, hq, harr⟩
  | outgrown => exact ⟨_, a₁, w₁, hq, harr⟩

theorem Good.pre {c c' : Cx} {st s1 st' : St} {e : Ex} (hs : Step c st.h c' s1.h) {x : Exit} {a : Act} {w : World} (h : Good ds c' s1 e st' x a w) : Good ds c st e st' x a w := by
  obtain ⟨h1, c2, h2, h3, h4⟩ := h
  exact ⟨h1, c2, h2, hs.trans h3, h4⟩

/-- for loops: their state behind the first step -/
def LoopOk (P : Program) (run : Run) : Prop :=
  ∀ b st e st', run (.loop b) st = some (e, st') → ∀ (ds : List Deferred) (c : Cx) (a : Act), HR c → SR ds c st a → Free c st.h st'.h → LoopWp P b (Good ds c st e st') a c.w

theorem scope_ok {run : Run} (hrun : RunOk P run) (hlen : RunLen run) {b : Code} : ∀ (m : Nat) (cur : Code) {st st' : St} {e : Ex}, scopeD run b m cur st = some (e, st') → ∀ (c : Cx) (a : Act), HR c → SR ds c st a → Free c st.h st'.h →
    ScopeWp P cur b (Good ds c st e st') a c.w
  | 0, cur, st, st', e, h, c, a, hr, hs, hf => by simp [scopeD] at h
  | m + 1, cur, st, st', e, h, c, a, hr, hs, hf => by
    simp only [scopeD] at h
    refine scope_in ?_
    split at h
    · rename_i l s1 h1
      split at h
      · rename_i rest hl
        have hle := scopeD_len hlen m rest h
        refine wp_mono (hrun _ _ _ _ h1 ds c a hr hs (hf.left hle)) ?_
        rintro x a' w' ⟨rfl, c', rfl, hstep, hsr⟩
        simp only [exitOf, hl]
        intro b' k cs
        obtain ⟨e2, a2, w2, hq, harr⟩ := scope_ok hrun hlen m rest h c' a' hstep.hr hsr (hf.mid hstep hle) b' k cs
        exact ⟨e2, a2, w2, hq.pre hstep, harr⟩
      · rename_i hl
        simp only [Option.some.injEq, Prod.mk.injEq] at h
        obtain ⟨rfl, rfl⟩ := h
        refine wp_mono (hrun _ _ _ _ h1 ds c a hr hs hf) ?_
        rintro x a' w' ⟨rfl, hh⟩
        simp only [exitOf, hl]
        exact ⟨rfl, hh⟩
    · rename_i hn
      refine wp_mono (hrun _ _ _ _ h ds c a hr hs hf) ?_
      rintro x a' w' ⟨rfl, hh⟩
      cases e with
      | goto l => exact absurd h (hn l st')
      | _ => exact ⟨rfl, hh⟩

theorem exec_ok (hext : ExtOk P cfg) (hdraw : DrawOk P cfg) : ∀ k : Nat, RunOk P (exec P cfg k) ∧ LoopOk P (exec P cfg k)
  | 0 => ⟨by intro code st e st' h; simp [exec] at h, by intro code st e st' h; simp [exec] at h⟩
  | k + 1 => by
    obtain ⟨ih, ihl⟩ := exec_ok hext hdraw k
    have hlen := exec_len (P := P) (cfg := cfg) k
    have hloop : LoopOk P (exec P cfg (k + 1)) := by
      intro b st e st' h ds c a hr hs hf
      simp only [exec] at h
      refine loop_in ?_
      split at h
      · rename_i s1 h1
        have hle := hlen _ _ _ _ h
        refine wp_mono (ih _ _ _ _ h1 ds c a hr hs (hf.left hle)) ?_
        rintro x a' w' ⟨rfl, c', rfl, hstep, hsr⟩
        show LoopWp P b _ a' c'.w
        intro b' k' cs
        obtain ⟨e2, a2, w2, hq, harr⟩ := ihl _ _ _ _ h ds c' a' hstep.hr hsr (hf.mid hstep hle) b' k' cs
        exact ⟨e2, a2, w2, hq.pre hstep, harr⟩
      · rename_i hn
        refine wp_mono (ih _ _ _ _ h ds c a hr hs hf) ?_
        rintro x a' w' ⟨rfl, hh⟩
        cases e with
        | normal => exact absurd h (hn st')
        | _ => exact ⟨rfl, hh⟩
    refine ⟨?_, hloop⟩
    intro code st e st' h ds c a hr hs hf
    change code.wp P (Good ds c st e st') a c.w
    cases code with
    | skip =>
      simp only [exec, Option.some.injEq, Prod.mk.injEq] at h; obtain ⟨rfl, rfl⟩ := h
      exact wp_skip ⟨rfl, c, rfl, .refl hr hs.2.2.2, hs⟩
    | label l =>
      simp only [exec, Option.some.injEq, Prod.mk.injEq] at h; obtain ⟨rfl, rfl⟩ := h
      exact wp_label ⟨rfl, c, rfl, .refl hr hs.2.2.2, hs⟩
    | exit id =>
      simp only [exec, Option.some.injEq, Prod.mk.injEq] at h; obtain ⟨rfl, rfl⟩ := h
      exact wp_exit ⟨rfl, c, rfl, .refl hr hs.2.2.2, hs⟩
    | goto id =>
      simp only [exec, Option.some.injEq, Prod.mk.injEq] at h; obtain ⟨rfl, rfl⟩ := h
      exact wp_goto ⟨rfl, c, rfl, .refl hr hs.2.2.2, hs⟩
    | ret =>
      simp only [exec, Option.some.injEq, Prod.mk.injEq] at h; obtain ⟨rfl, rfl⟩ := h
      exact wp_ret ⟨rfl, c, rfl, .refl hr hs.2.2.2, hs⟩
    | refuse why => simp [exec] at h
    | rangeFunc => simp [exec] at h
    | region id ops draw =>
      simp only [exec, Option.map_eq_some_iff, Prod.mk.injEq] at h
      obtain ⟨s, h, rfl, rfl⟩ := h
      cases draw with
      | true => exact hdraw _ ih hlen id ops st s h ds c a hr hs hf
      | false =>
        simp only [regionD, Bool.false_eq_true, if_false] at h
        refine wp_region ?_
        rw [List.range_eq_range']
        exact ops_ok ih hlen hext ops.size 0 (by simp) hr hs hf (by simpa using h) fun a' c' h1 h2 => ⟨rfl, c', rfl, h1, h2⟩
    | seq x y =>
      simp only [exec] at h
      refine wp_seq ?_
      split at h
      · rename_i s1 h1
        have hle := hlen _ _ _ _ h
        refine wp_mono (ih _ _ _ _ h1 ds c a hr hs (hf.left hle)) ?_
        rintro x a' w' ⟨rfl, c', rfl, hstep, hsr⟩
        show y.wp P _ a' c'.w
        exact wp_mono (ih _ _ _ _ h ds c' a' hstep.hr hsr (hf.mid hstep hle)) fun e a w hq => Good.pre hstep hq
      · rename_i hn
        refine wp_mono (ih _ _ _ _ h ds c a hr hs hf) ?_
        rintro x a' w' ⟨rfl, hh⟩
        cases e with
        | normal => exact absurd h (hn st')
        | _ => exact ⟨rfl, hh⟩
    | cond x thn els =>
      simp only [exec] at h
      split at h
      · rename_i hx
        exact wp_cond_true (evs_rv hs.2.2.1 hx).bool (ih _ _ _ _ h ds c a hr hs hf)
      · rename_i hx
        exact wp_cond_false (evs_rv hs.2.2.1 hx).bool (ih _ _ _ _ h ds c a hr hs hf)
      · cases h
    | block id b =>
      simp only [exec] at h
      refine wp_block ?_
      split at h
      · rename_i i s1 h1
        simp only [Option.some.injEq, Prod.mk.injEq] at h
        obtain ⟨rfl, rfl⟩ := h
        refine wp_mono (ih _ _ _ _ h1 ds c a hr hs hf) ?_
        rintro x a' w' ⟨rfl, hh⟩
        simp only [exitOf, Exit.inBlock]
        split
        · exact ⟨rfl, hh⟩
        · exact ⟨rfl, hh⟩
      · rename_i hn
        refine wp_mono (ih _ _ _ _ h ds c a hr hs hf) ?_
        rintro x a' w' ⟨rfl, hh⟩
        cases e with
        | exit i => exact absurd h (hn i st')
        | _ => exact ⟨rfl, hh⟩
    | loop b => exact loop_of (hloop b st e st' h ds c a hr hs hf)
    | scope b =>
      simp only [exec] at h
      exact scope_of (scope_ok ih hlen _ _ h c a hr hs hf)
end
end Go.Proofs.YtlpadffinfijgaaW.Vm
