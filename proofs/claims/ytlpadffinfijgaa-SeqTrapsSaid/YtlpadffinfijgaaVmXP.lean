/- How code ends that may panic, defer and recover, beside the machine of plain values: a rule for each form of code. No conditions. -/
import Derived.Test.YtlpadffinfijgaaVmScope
import Derived.Test.YtlpadffinfijgaaVmDraw3
import Derived.Recover
set_option linter.unusedVariables false
set_option linter.unusedSimpArgs false
namespace Go.Proofs.YtlpadffinfijgaaW.Vm
open Go Go.RowKit

/-- How code ends: as in the machine, or by a panic with a value. -/
inductive Xit where
  | ex (e : Ex)
  | pan (d : D)
/-- How a call ends. -/
inductive Out where
  | ret (d : D)
  | pan (d : D)
def XR (c : Cx) : Xit → Exit → Prop
  | .ex e, x => x = exitOf e
  | .pan d, x => ∃ v, x = .panic [{ v := v, recovered := false }] ∧ RV c d v
def OR (c : Cx) : Out → Ending → Prop
  | .ret d, e => ∃ v, e = .returned v ∧ RV c d v
  | .pan d, e => ∃ v, e = .panicked [{ v := v, recovered := false }] ∧ RV c d v
/-- closures that are deferred -/
inductive DR (c : Cx) : List D → List Deferred → Prop
  | nil : DR c [] []
  | cons {f : Fn} {a b : List D} {a' b' : Array Value} {dl : List D} {ds : List Deferred} (h1 : RVs c a a'.toList) (h2 : RVs c b b'.toList) (r : DR c dl ds) :
      DR c (.clo f a b :: dl) ({ target := .fn f b', args := a' } :: ds)
theorem DR.ext {c c' : Cx} (he : Ext c c') (hsz : ∀ id b base, c.μ id = some (b, base) → b < c.w.heap.size) : ∀ {dl ds}, DR c dl ds → DR c' dl ds
  | _, _, .nil => .nil
  | _, _, .cons h1 h2 r => .cons (h1.ext he hsz) (h2.ext he hsz) (r.ext he hsz)
def SRD (c : Cx) (dl : List D) (st : St) (a : Act) : Prop := ∃ ds, DR c dl ds ∧ SR ds c st a
def GX (c : Cx) (st : St) (e : Xit) (dl' : List D) (st' : St) : Exit → Act → World → Prop := fun x a' w' => ∃ c', c'.w = w' ∧ Step c st.h c' st'.h ∧ XR c' e x ∧ SRD c' dl' st' a'
def Goes (P : Program) (code : Code) (dl : List D) (st : St) (e : Xit) (dl' : List D) (st' : St) : Prop :=
  st.h.length ≤ st'.h.length ∧ ∀ (c : Cx) (a : Act), HR c → SRD c dl st a → Free c st.h st'.h → code.wp P (GX c st e dl' st') a c.w
def GoesS (P : Program) (cur body : Code) (dl : List D) (st : St) (e : Xit) (dl' : List D) (st' : St) : Prop :=
  st.h.length ≤ st'.h.length ∧ ∀ (c : Cx) (a : Act), HR c → SRD c dl st a → Free c st.h st'.h → ScopeWp P cur body (GX c st e dl' st') a c.w
def OpsGo (P : Program) (ops : Array Oper) (k : Nat) (dl : List D) (st : St) (e : Xit) (dl' : List D) (st' : St) : Prop :=
  st.h.length ≤ st'.h.length ∧ ∀ (c : Cx) (a : Act), HR c → SRD c dl st a → Free c st.h st'.h → wpOps P ops (GX c st e dl' st') (List.range' k (ops.size - k)) a c.w
def CallGo (P : Program) (f : FuncId) (args : List D) (h : List Ob) (o : Out) (h' : List Ob) : Prop :=
  h.length ≤ h'.length ∧ FnOk P f ∧ ∀ (c : Cx), HR c → Ag c h → Free c h h' → ∀ (vs : Array Value), RVs c args vs.toList →
    Calls P f vs c.w fun e w' => ∃ c', c'.w = w' ∧ Step c h c' h' ∧ OR c' o e
/-- the machine may be used -/
structure Fit (P : Program) (cfg : Cfg) : Prop where
  ext : ExtOk P cfg
  mix : P.follows .mixedOrders = true

theorem wpOps_mono {P : Program} {ops : Array Oper} {Q Q' : Exit → Act → World → Prop} (hq : ∀ e a w, Q e a w → Q' e a w) : ∀ (l : List Nat) {a : Act} {w : World}, wpOps P ops Q l a w → wpOps P ops Q' l a w
  | [], a, w, h => hq _ _ _ h
  | i :: l, a, w, h => by
    have ih : ∀ a w, wpOps P ops Q l a w → wpOps P ops Q' l a w := fun a w h => wpOps_mono hq l h
    have hlet : LetsOut Q → LetsOut Q' := fun ⟨a, w, h⟩ => ⟨a, w, hq _ _ _ h⟩
    simp only [wpOps] at h ⊢
    split
    · rename_i h1; simp only [h1] at h; exact ih _ _ h
    · rename_i o h1
      simp only [h1] at h
      split
      · rename_i h2
        rw [if_pos h2] at h
        rcases h with h | ⟨h, h3⟩
        · refine .inl ?_
          unfold Oper.wp at h ⊢
          generalize (execOp a.eval o).run P w = r at h ⊢
          unfold Oper.upon at h ⊢
          split at h
          · exact ih _ _ h
          · exact ih _ _ h
          · exact ih _ _ h
          · refine h.mono ?_
            intro e w' hh
            cases e with
            | returned v => exact ih _ _ hh
            | panicked ch => exact hq _ _ _ hh
            | outgrown => exact hlet hh
          · exact h.mono fun v w' hh => ih _ _ hh
          · exact hq _ _ _ h
          · exact h.elim
        · exact .inr ⟨h, hlet h3⟩
      · rename_i h2
        rw [if_neg h2] at h
        exact ih _ _ h

section
variable {P : Program} {cfg : Cfg} {dl d1 d2 : List D} {st s1 st' : St} {e : Xit}
theorem GX.pre {c c' : Cx} (hs : Step c st.h c' s1.h) {x : Exit} {a : Act} {w : World} (h : GX c' s1 e d2 st' x a w) : GX c st e d2 st' x a w := by
  obtain ⟨c2, h1, h2, h3, h4⟩ := h
  exact ⟨c2, h1, hs.trans h2, h3, h4⟩
theorem SRD.srd {c : Cx} {ds : List Deferred} {a : Act} (h : SR ds c st a) (hd : DR c dl ds) : SRD c dl st a := ⟨ds, hd, h⟩
theorem runOk_W (F : Fit P cfg) : RunOk P (W P cfg) := by
  intro code st e st' h ds c a hr hs hf
  obtain ⟨k, hk⟩ := W_iff.1 h
  exact (exec_ok F.ext (draw_ok F.ext F.mix) k).1 _ _ _ _ hk ds c a hr hs hf
theorem runLen_W : RunLen (W P cfg) := by
  intro code st e st' h
  obtain ⟨k, hk⟩ := W_iff.1 h
  exact exec_len k _ _ _ _ hk
theorem goes_W (F : Fit P cfg) {code : Code} {x : Ex} (h : W P cfg code st = some (x, st')) : Goes P code dl st (.ex x) dl st' := by
  refine ⟨runLen_W _ _ _ _ h, fun c a hr ⟨ds, hd, hs⟩ hf => wp_mono (runOk_W F _ _ _ _ h ds c a hr hs hf) ?_⟩
  rintro x a' w' ⟨rfl, c', rfl, h1, h2⟩
  exact ⟨c', rfl, h1, rfl, ds, hd.ext h1.ext fun _ _ _ hm => hr.lt hm, h2⟩
theorem goes_seq {x y : Code} (h1 : Goes P x dl st (.ex .normal) d1 s1) (h2 : Goes P y d1 s1 e d2 st') : Goes P (.seq x y) dl st e d2 st' := by
  refine ⟨Nat.le_trans h1.1 h2.1, fun c a hr hs hf => wp_seq (wp_mono (h1.2 c a hr hs (hf.left h2.1)) ?_)⟩
  rintro x a' w' ⟨c', rfl, hstep, rfl, hsr⟩
  show y.wp P _ a' c'.w
  exact wp_mono (h2.2 c' a' hstep.hr hsr (hf.mid hstep h2.1)) fun e a w hq => hq.pre hstep
theorem goes_stop {x y : Code} (h1 : Goes P x dl st e d2 st') (hne : e ≠ .ex .normal) : Goes P (.seq x y) dl st e d2 st' := by
  refine ⟨h1.1, fun c a hr hs hf => wp_seq (wp_mono (h1.2 c a hr hs hf) ?_)⟩
  rintro x a' w' ⟨c', rfl, hstep, hx, hsr⟩
  cases e with
  | ex e =>
    obtain rfl : x = exitOf e := hx
    cases e with
    | normal => exact absurd rfl hne
    | _ => exact ⟨c', rfl, hstep, rfl, hsr⟩
  | pan d =>
    obtain ⟨v, rfl, hv⟩ := hx
    exact ⟨c', rfl, hstep, ⟨v, rfl, hv⟩, hsr⟩
theorem goes_cond {o : Operand} {x y : Code} {b : Bool} (hb : ev st.σ o = some (.bool b)) (h : Goes P (if b then x else y) dl st e d2 st') : Goes P (.cond o x y) dl st e d2 st' :=
  ⟨h.1, fun c a hr hs hf => wp_cond (evs_rv hs.choose_spec.2.2.2.1 hb).bool (h.2 c a hr hs hf)⟩
def inB (id : Nat) : Xit → Xit
  | .ex (.exit i) => .ex (if i = id then .normal else .exit i)
  | e => e
theorem goes_block {id : Nat} {x : Code} (h : Goes P x dl st e d2 st') : Goes P (.block id x) dl st (inB id e) d2 st' := by
  refine ⟨h.1, fun c a hr hs hf => wp_block (wp_mono (h.2 c a hr hs hf) ?_)⟩
  rintro x a' w' ⟨c', rfl, hstep, hx, hsr⟩
  cases e with
  | ex e =>
    obtain rfl : x = exitOf e := hx
    cases e with
    | exit i =>
      simp only [exitOf, Exit.inBlock, inB]
      split
      · exact ⟨c', rfl, hstep, rfl, hsr⟩
      · exact ⟨c', rfl, hstep, rfl, hsr⟩
    | _ => exact ⟨c', rfl, hstep, rfl, hsr⟩
  | pan d =>
    obtain ⟨v, rfl, hv⟩ := hx
    exact ⟨c', rfl, hstep, ⟨v, rfl, hv⟩, hsr⟩
theorem goesS_goto {cur body rest : Code} {l : Nat} (h1 : Goes P cur dl st (.ex (.goto l)) d1 s1) (hl : findLabel body l = some rest) (h2 : GoesS P rest body d1 s1 e d2 st') : GoesS P cur body dl st e d2 st' := by
  refine ⟨Nat.le_trans h1.1 h2.1, fun c a hr hs hf => scope_in (wp_mono (h1.2 c a hr hs (hf.left h2.1)) ?_)⟩
  rintro x a' w' ⟨c', rfl, hstep, rfl, hsr⟩
  simp only [exitOf, hl]
  intro b' k cs
  obtain ⟨e2, a2, w2, hq, harr⟩ := h2.2 c' a' hstep.hr hsr (hf.mid hstep h2.1) b' k cs
  exact ⟨e2, a2, w2, hq.pre hstep, harr⟩
theorem goesS_end {cur body : Code} (h : Goes P cur dl st e d2 st') (hne : ∀ l, e ≠ .ex (.goto l)) : GoesS P cur body dl st e d2 st' := by
  refine ⟨h.1, fun c a hr hs hf => scope_in (wp_mono (h.2 c a hr hs hf) ?_)⟩
  rintro x a' w' ⟨c', rfl, hstep, hx, hsr⟩
  cases e with
  | ex e =>
    obtain rfl : x = exitOf e := hx
    cases e with
    | goto l => exact absurd rfl (hne l)
    | _ => exact ⟨c', rfl, hstep, rfl, hsr⟩
  | pan d =>
    obtain ⟨v, rfl, hv⟩ := hx
    exact ⟨c', rfl, hstep, ⟨v, rfl, hv⟩, hsr⟩
theorem goes_scope {b : Code} (h : GoesS P b b dl st e d2 st') : Goes P (.scope b) dl st e d2 st' :=
  ⟨h.1, fun c a hr hs hf => scope_of (h.2 c a hr hs hf)⟩
theorem goes_region {id : Nat} {ops : Array Oper} (h : OpsGo P ops 0 dl st e d2 st') : Goes P (.region id ops false) dl st e d2 st' := by
  refine ⟨h.1, fun c a hr hs hf => wp_region ?_⟩
  rw [List.range_eq_range']
  exact h.2 c a hr hs hf

/-! operations -/
theorem opsGo_nil {ops : Array Oper} {k : Nat} (hk : ops.size ≤ k) : OpsGo P ops k dl st (.ex .normal) dl st := by
  refine ⟨Nat.le_refl _, fun c a hr hs hf => ?_⟩
  rw [show ops.size - k = 0 by omega]
  exact ⟨c, rfl, .refl hr hs.choose_spec.2.2.2.2, rfl, hs⟩
/-- one operation, told by what the model does, then the rest -/
theorem opsGo_of {ops : Array Oper} {k : Nat} {o : Oper} (ho : ops[k]? = some o) (hl : st.h.length ≤ s1.h.length)
    (h1 : ∀ (c : Cx) (a : Act) (Q : Exit → Act → World → Prop), HR c → SRD c dl st a → Free c st.h s1.h → wpOp P ops Q k (fun a' w' => ∃ c', c'.w = w' ∧ Step c st.h c' s1.h ∧ SRD c' d1 s1 a') a c.w)
    (h2 : OpsGo P ops (k + 1) d1 s1 e d2 st') : OpsGo P ops k dl st e d2 st' := by
  refine ⟨Nat.le_trans hl h2.1, fun c a hr hs hf => ?_⟩
  have hlt : k < ops.size := (Array.getElem?_eq_some_iff.1 ho).1
  rw [show ops.size - k = (ops.size - (k + 1)) + 1 by omega, List.range'_succ, wpOps_cons]
  refine wpOp_mono ?_ (h1 c a _ hr hs (hf.left h2.1))
  rintro a' w' ⟨c', rfl, hstep, hsr⟩
  exact wpOps_mono (fun e a w hq => hq.pre hstep) _ (h2.2 c' a' hstep.hr hsr (hf.mid hstep h2.1))
theorem opsGo_step (F : Fit P cfg) {ops : Array Oper} {k : Nat} {o : Oper} (ho : ops[k]? = some o) (h : stepD P cfg (W P cfg) ops o st = some s1) (h2 : OpsGo P ops (k + 1) dl s1 e d2 st') : OpsGo P ops k dl st e d2 st' := by
  refine opsGo_of (d1 := dl) ho (stepD_len runLen_W h) (fun c a Q hr ⟨ds, hd, hs⟩ hf => ?_) h2
  refine wpOp_mono ?_ (step_ok (runOk_W F) F.ext hr hs hf ho h)
  rintro a' w' ⟨c', rfl, h3, h4⟩
  exact ⟨c', rfl, h3, ds, hd.ext h3.ext fun _ _ _ hm => hr.lt hm, h4⟩
/-- many operations of the machine, from the k-th to before the m-th -/
theorem opsGo_steps (F : Fit P cfg) {ops : Array Oper} {m : Nat} : ∀ (n k : Nat) {st s1 : St}, k + n = m → m ≤ ops.size → opsD P cfg (W P cfg) ops ((ops.toList.drop k).take n) st = some s1 → OpsGo P ops m dl s1 e d2 st' → OpsGo P ops k dl st e d2 st'
  | 0, k, st, s1, hk, hm, h, h2 => by
    simp only [List.take_zero, opsD, Option.some.injEq] at h; subst h
    rw [show k = m by omega]; exact h2
  | n + 1, k, st, s1, hk, hm, h, h2 => by
    have hlt : k < ops.size := by omega
    rw [List.drop_eq_getElem_cons (by simpa using hlt), List.take_succ_cons] at h
    simp only [opsD] at h
    split at h
    · rename_i s2 h1
      exact opsGo_step F (o := ops.toList[k]'(by simpa using hlt)) (by rw [Array.getElem_toList]; exact Array.getElem?_eq_getElem hlt) h1 (opsGo_steps F n (k + 1) (by omega) hm h h2)
    · cases h

/-- the machine's words for a call of a function's value -/
structure CallAt (o : Oper) (st : St) (g : FuncId) (args : List D) : Prop where
  ex : ∃ cl f first captured as, o.op = .call cl ∧ cl.callee = .value f ∧ evs st.σ cl.args.toList = some as ∧ ev st.σ f = some (.clo (.func g) first captured) ∧ args = first ++ as ++ captured
theorem call_wp {o : Oper} {g : FuncId} {args : List D} (hc : CallAt o st g args) {out : Out} {h' : List Ob} (hg : CallGo P g args st.h out h') {c : Cx} {a : Act} {ds : List Deferred} (hr : HR c) (hs : SR ds c st a) (hf : Free c st.h h')
    {K : Act → World → Prop} {Q : Exit → Act → World → Prop} (hK : ∀ e w' c', c'.w = w' → Step c st.h c' h' → OR c' out e → (∀ v, e = .returned v → K (a.put o.dst v) w') ∧ (∀ ch, e = .panicked ch → Q (.panic ch) a w')) :
    o.wp P a c.w K Q := by
  obtain ⟨cl, f, first, captured, as, ho, hcal, hargs, hfv, rfl⟩ := hc.ex
  obtain ⟨hd, hn, ht, ag⟩ := hs
  have hrv := evsl_rv ht hargs
  obtain ⟨vf, vc, hfe, hvf, hvc⟩ := (evs_rv ht hfv).clo'
  obtain ⟨hlen, ⟨fn, hfn, hb, hnm⟩, h2⟩ := hg
  have h2 := h2 c hr ag hf (vf ++ cl.args.map a.eval ++ vc) (by
    simp only [Array.toList_append, Array.toList_map]
    exact (hvf.append hrv).append hvc)
  have hnm' : fn.name ≠ "runtime.NumGoroutine" := by simpa using hnm
  have hb' : fn.body ≠ none := by intro h; rw [h] at hb; cases hb
  unfold Oper.wp
  rw [show (execOp a.eval o).run P c.w = .ok (.enter g (vf ++ cl.args.map a.eval ++ vc)) c.w by
    simp [execOp, ho, resolve, hcal, hfe, Deferred.ofValue, invoke, callFunc, hfn, hb', hnm'], Oper.upon_enter]
  refine h2.mono ?_
  rintro e w' ⟨c', h3, h4, h5⟩
  obtain ⟨k1, k2⟩ := hK e w' c' h3 h4 h5
  cases e with
  | returned v => exact k1 v rfl
  | panicked ch => exact k2 ch rfl
  | outgrown => cases out <;> (obtain ⟨v, hv, _⟩ := h5; cases hv)
theorem opsGo_call {ops : Array Oper} {k : Nat} {o : Oper} (ho : ops[k]? = some o) (hw : wantD ops o st.σ = some true) {g : FuncId} {args : List D} (hc : CallAt o st g args) {d : D} {h' : List Ob} (hg : CallGo P g args st.h (.ret d) h')
    (hp : put { st with h := h' } o.dst d = some s1) (h2 : OpsGo P ops (k + 1) dl s1 e d2 st') : OpsGo P ops k dl st e d2 st' := by
  have hh : s1.h = h' := (put_h hp).1
  refine opsGo_of (d1 := dl) ho (by rw [hh]; exact hg.1) (fun c a Q hr ⟨ds, hd, hs⟩ hf => ?_) h2
  unfold wpOp
  simp only [ho]
  rw [yielded_of hs.2.2.1 hw, if_pos rfl]
  rw [hh] at hf ⊢
  refine .inl (call_wp hc hg hr hs hf fun e w' c' h3 h4 h5 => ⟨fun v hv => ?_, fun ch hv => ?_⟩)
  · obtain ⟨v', hv', hrv⟩ := h5
    rw [hv] at hv'; cases hv'
    obtain ⟨e1, e2, e3, e4⟩ := put_sr (st := { st with h := h' }) hs.1 hs.2.1 (fun t => h4.rv hr (hs.2.2.1 t)) hrv hp
    refine ⟨c', h3, h4, ds, hd.ext h4.ext fun _ _ _ hm => hr.lt hm, e1, e2, e3, ?_⟩
    rw [hh]; exact h4.ag
  · obtain ⟨v', hv', hrv⟩ := h5
    rw [hv] at hv'; cases hv'
theorem opsGo_callpan {ops : Array Oper} {k : Nat} {o : Oper} (ho : ops[k]? = some o) (hw : wantD ops o st.σ = some true) {g : FuncId} {args : List D} (hc : CallAt o st g args) {d : D} {h' : List Ob} (hg : CallGo P g args st.h (.pan d) h') :
    OpsGo P ops k dl st (.pan d) dl { st with h := h' } := by
  refine ⟨hg.1, fun c a hr ⟨ds, hd, hs⟩ hf => ?_⟩
  have hlt : k < ops.size := (Array.getElem?_eq_some_iff.1 ho).1
  rw [show ops.size - k = (ops.size - (k + 1)) + 1 by omega, List.range'_succ, wpOps_cons]
  unfold wpOp
  simp only [ho]
  rw [yielded_of hs.2.2.1 hw, if_pos rfl]
  refine .inl (call_wp hc hg hr hs hf fun e w' c' h3 h4 h5 => ⟨fun v hv => ?_, fun ch hv => ?_⟩)
  · obtain ⟨v', hv', hrv⟩ := h5
    rw [hv] at hv'; cases hv'
  · obtain ⟨v', hv', hrv⟩ := h5
    rw [hv] at hv'; cases hv'
    exact ⟨c', h3, h4, ⟨v', rfl, hrv⟩, ds, hd.ext h4.ext fun _ _ _ hm => hr.lt hm, hs.1, hs.2.1, fun t => h4.rv hr (hs.2.2.1 t), h4.ag⟩
theorem opsGo_panic {ops : Array Oper} {k : Nat} {o : Oper} (ho : ops[k]? = some o) (hw : wantD ops o st.σ = some true) {x : Operand} (hop : o.op = .panic x) {t : TypeId} {d : D} (hx : ev st.σ x = some (.ifc t d)) :
    OpsGo P ops k dl st (.pan (.ifc t d)) dl st := by
  refine ⟨Nat.le_refl _, fun c a hr ⟨ds, hd, hs⟩ hf => ?_⟩
  have hlt : k < ops.size := (Array.getElem?_eq_some_iff.1 ho).1
  rw [show ops.size - k = (ops.size - (k + 1)) + 1 by omega, List.range'_succ, wpOps_cons]
  unfold wpOp
  simp only [ho]
  rw [yielded_of hs.2.2.1 hw, if_pos rfl]
  have hv := evs_rv hs.2.2.1 hx
  obtain ⟨v, hv1⟩ : ∃ v, a.eval x = .iface t v := by
    generalize a.eval x = u at hv
    cases hv with
    | cl h => cases h; exact ⟨_, rfl⟩
    | ifc h => exact ⟨_, rfl⟩
  refine .inl ?_
  unfold Oper.wp
  rw [show (execOp a.eval o).run P c.w = .halt (.panic (.iface t v)) c.w by simp [execOp, hop, hv1, Instr.panic, goPanic], Oper.upon_panic]
  rw [hv1] at hv
  exact ⟨c, rfl, .refl hr hs.2.2.2, ⟨_, rfl, hv⟩, ds, hd, hs⟩
theorem ifc' {c : Cx} {t : TypeId} {d : D} {u : Value} (h : RV c (.ifc t d) u) : ∃ v, u = .iface t v ∧ RV c d v := by
  cases h with
  | cl h => cases h with | ifc h => exact ⟨_, rfl, .cl h⟩
  | ifc h => exact ⟨_, rfl, h⟩
theorem opsGo_assert {ops : Array Oper} {k : Nat} {o : Oper} (ho : ops[k]? = some o) (hw : wantD ops o st.σ = some true) {x : Operand} {xt t : TypeId} (hop : o.op = .typeAssert x xt t true) {d : D} (hx : ev st.σ x = some (.ifc t d))
    {u : TypeDesc} (hu : P.underlying t = some u) (hni : ∀ m, u ≠ .interface m) (hp : put st o.dst (.tup [d, .bool true]) = some s1) (h2 : OpsGo P ops (k + 1) dl s1 e d2 st') : OpsGo P ops k dl st e d2 st' := by
  have hh : s1.h = st.h := (put_h hp).1
  refine opsGo_of (d1 := dl) ho (by rw [hh]; exact Nat.le_refl _) (fun c a Q hr ⟨ds, hd, hs⟩ hf => ?_) h2
  unfold wpOp
  simp only [ho]
  rw [yielded_of hs.2.2.1 hw, if_pos rfl]
  obtain ⟨v, hv1, hv⟩ := ifc' (evs_rv hs.2.2.1 hx)
  refine .inl ?_
  unfold Oper.wp
  rw [show (execOp a.eval o).run P c.w = .ok (.value (.tuple #[v, .bool true])) c.w by
    simp only [execOp, hop, hv1, Instr.typeAssert, Sem.run_bind, run_und hu, Result.andThen_ok]
    cases u <;> first | exact absurd rfl (hni _) | simp, Oper.upon_value]
  obtain ⟨e1, e2, e3, e4⟩ := put_sr hs.1 hs.2.1 hs.2.2.1 (.tup (vs := #[v, .bool true]) (.cons hv (.cons (.cl (.bool true)) .nil))) hp
  exact ⟨c, rfl, by rw [hh]; exact .refl hr hs.2.2.2, ds, hd, e1, e2, e3, by rw [hh]; exact hs.2.2.2⟩
theorem opsGo_defer {ops : Array Oper} {k : Nat} {o : Oper} (ho : ops[k]? = some o) (hw : wantD ops o st.σ = some true) {cl : Call} (hop : o.op = .defer cl) (hdst : o.dst = none) {f : Operand} (hcal : cl.callee = .value f) (hargs : cl.args = #[])
    {g : Fn} {first captured : List D} (hfv : ev st.σ f = some (.clo g first captured)) (h2 : OpsGo P ops (k + 1) (.clo g first captured :: dl) st e d2 st') : OpsGo P ops k dl st e d2 st' := by
  refine opsGo_of ho (Nat.le_refl _) (fun c a Q hr ⟨ds, hd, hs⟩ hf => ?_) h2
  unfold wpOp
  simp only [ho]
  rw [yielded_of hs.2.2.1 hw, if_pos rfl]
  obtain ⟨vf, vc, hfe, hvf, hvc⟩ := (evs_rv hs.2.2.1 hfv).clo'
  refine .inl ?_
  unfold Oper.wp
  rw [show (execOp a.eval o).run P c.w = .ok (.defer { target := .fn g vc, args := vf }) c.w by
    simp [execOp, hop, resolve, hcal, hargs, hfe, Deferred.ofValue], Oper.upon_defer, hdst]
  exact ⟨c, rfl, .refl hr hs.2.2.2, _, .cons hvf hvc hd, by simp [Act.put, hs.1], hs.2.1, hs.2.2.1, hs.2.2.2⟩

/-! functions -/
theorem callGo_W (F : Fit P cfg) {f : FuncId} {args : List D} {h h' : List Ob} {d : D} (hb : body P (W P cfg) f args h = some (d, h')) : CallGo P f args h (.ret d) h' := by
  have hok := fun (c : Cx) (hr : HR c) (ag : Ag c h) (hf : Free c h h') (vs : Array Value) (ha : RVs c args vs.toList) => body_ok (runOk_W F) hb hr ag hf ha
  refine ⟨body_len runLen_W hb, ?_, fun c hr ag hf vs ha => ((hok c hr ag hf vs ha).2).mono ?_⟩
  · unfold body at hb
    split at hb
    · cases hb
    · rename_i fn hf
      split at hb
      · cases hb
      · rename_i code hc
        split at hb
        · cases hb
        · rename_i hn
          exact ⟨fn, hf, by simp [hc], by simpa using hn⟩
  · rintro e w' ⟨v, c', rfl, h1, h2, h3⟩
    exact ⟨c', h1, h2, v, rfl, h3⟩
theorem start_srd {c : Cx} {args : List D} {h : List Ob} {fn : Func} {vs : Array Value} (ag : Ag c h) (ha : RVs c args vs.toList) :
    SRD c [] ⟨argsσ args, h, max args.length fn.ntmps⟩ { tmps := vs ++ Array.replicate (fn.ntmps - vs.size) undef, defers := [] } := by
  have hsz : args.length = vs.size := by rw [ha.length, Array.length_toList]
  refine ⟨[], .nil, rfl, ?_, fun t => args_rv ha _ t, ag⟩
  simp; omega
theorem callGo_ret {f : FuncId} {fn : Func} {code : Code} (hf : P.funcs[f]? = some fn) (hb : fn.body = some code) (hn : (fn.name == "runtime.NumGoroutine") = false) {args : List D} {h : List Ob} {x : Ex} (hx : x = .normal ∨ x = .ret)
    (hg : Goes P code [] ⟨argsσ args, h, max args.length fn.ntmps⟩ (.ex x) [] st') {d : D} (hres : Vm.results P fn st' = some d) : CallGo P f args h (.ret d) st'.h := by
  refine ⟨hg.1, ⟨fn, hf, by simp [hb], hn⟩, fun c hr ag hfr vs ha => ?_⟩
  refine calls_of_wp hf hb (wp_mono (hg.2 c _ hr (start_srd ag ha) hfr) ?_)
  rintro y a' w' ⟨c', rfl, hstep, rfl, ds, hd, hsr⟩
  cases hd
  obtain ⟨v, h1, h2⟩ := results_ok hstep.hr hsr hres
  rcases hx with rfl | rfl <;> exact ⟨hsr.1, v, h1, c', rfl, hstep, v, rfl, h2⟩
theorem callGo_pan {f : FuncId} {fn : Func} {code : Code} (hf : P.funcs[f]? = some fn) (hb : fn.body = some code) (hn : (fn.name == "runtime.NumGoroutine") = false) {args : List D} {h : List Ob} {d : D}
    (hg : Goes P code [] ⟨argsσ args, h, max args.length fn.ntmps⟩ (.pan d) [] st') : CallGo P f args h (.pan d) st'.h := by
  refine ⟨hg.1, ⟨fn, hf, by simp [hb], hn⟩, fun c hr ag hfr vs ha => ?_⟩
  refine calls_of_wp hf hb (wp_mono (hg.2 c _ hr (start_srd ag ha) hfr) ?_)
  rintro y a' w' ⟨c', rfl, hstep, ⟨v, rfl, hv⟩, ds, hd, hsr⟩
  cases hd
  exact ⟨hsr.1, c', rfl, hstep, v, rfl, hv⟩

/-- in what state a deferred call finds its function: it returns, or panics with a value -/
def UR (c : Cx) : Option D → FrameMode → Prop
  | none, u => u = .returning
  | some d, u => ∃ v, u = .panicking [{ v := v, recovered := false }] ∧ RV c d v
/-- a deferred call that goes well, and behind which the function returns -/
def DefGo (P : Program) (g : FuncId) (args : List D) (o : Option D) (h h' : List Ob) : Prop :=
  h.length ≤ h'.length ∧ FnOk P g ∧ ∀ (c : Cx), HR c → Ag c h → Free c h h' → ∀ (vs : Array Value), RVs c args vs.toList → ∀ (u : FrameMode), UR c o u →
    CallsD P g vs u c.w fun e u' w' => (∃ v, e = .returned v) ∧ settle u' = .returning ∧ ∃ c', c'.w = w' ∧ Step c h c' h'
def panOf : Xit → Option D
  | .pan d => some d
  | _ => none
theorem callGo_defer {f : FuncId} {fn : Func} {code : Code} (hf : P.funcs[f]? = some fn) (hb : fn.body = some code) (hn : (fn.name == "runtime.NumGoroutine") = false) {args : List D} {h : List Ob} (hx : e = .ex .normal ∨ e = .ex .ret ∨ ∃ d, e = .pan d)
    {g : FuncId} {first captured : List D} (hg : Goes P code [] ⟨argsσ args, h, max args.length fn.ntmps⟩ e [.clo (.func g) first captured] st') {h' : List Ob} (hd : DefGo P g (first ++ captured) (panOf e) st'.h h') {d : D}
    (hres : Vm.results P fn { st' with h := h' } = some d) : CallGo P f args h (.ret d) h' := by
  refine ⟨Nat.le_trans hg.1 hd.1, ⟨fn, hf, by simp [hb], hn⟩, fun c hr ag hfr vs ha => ?_⟩
  refine calls_of_wp_defers hf hb (wp_mono (hg.2 c _ hr (start_srd ag ha) (hfr.left hd.1)) ?_)
  rintro y a' w' ⟨c', rfl, hstep, hy, ds, hds, hsr⟩
  cases hds with
  | cons h1 h2 r =>
    cases r
    rename_i a1 b1
    obtain ⟨_, ⟨fn', hfn', hb', hnm'⟩, hcall⟩ := hd
    have hnm'' : fn'.name ≠ "runtime.NumGoroutine" := by simpa using hnm'
    have hb'' : fn'.body ≠ none := by intro h; rw [h] at hb'; cases hb'
    have key : ∀ u, u ≠ .run → UR c' (panOf e) u → Go.Leaves P fn a'.tmps (fun e w' => ∃ c'', c''.w = w' ∧ Step c h c'' h' ∧ OR c'' (.ret d) e) a'.defers u c'.w := by
      intro u hu hur
      rw [hsr.1]
      refine leaves_cons (f := g) (args := a1 ++ b1) hu (by simp [invoke, callFunc, hfn', hb'', hnm'']) ?_
      refine (hcall c' hstep.hr hstep.ag (hfr.mid hstep ‹_›) (a1 ++ b1) (by simpa using h1.append h2) u hur).mono ?_
      rintro e' u' w2 ⟨⟨v, rfl⟩, hset, c2, rfl, hst2⟩
      show Go.Leaves P fn a'.tmps _ [] (settle u') c2.w
      rw [hset]
      have hsr2 : SR (ds := a'.defers) c2 { st' with h := h' } a' := ⟨rfl, hsr.2.1, fun t => hst2.rv hstep.hr (hsr.2.2.1 t), hst2.ag⟩
      obtain ⟨v', k1, k2⟩ := results_ok hst2.hr hsr2 hres
      exact ⟨v', k1, c2, rfl, hstep.trans hst2, v', rfl, k2⟩
    rcases hx with rfl | rfl | ⟨d', rfl⟩
    · obtain rfl : y = exitOf .normal := hy
      exact key .returning (by simp) rfl
    · obtain rfl : y = exitOf .ret := hy
      exact key .returning (by simp) rfl
    · obtain ⟨v, rfl, hv⟩ := hy
      exact key _ (by simp) ⟨v, rfl, hv⟩
end
end Go.Proofs.YtlpadffinfijgaaW.Vm
set_option linter.unusedVariables false
set_option linter.unusedSimpArgs false
namespace Go.Proofs.YtlpadffinfijgaaW.Vm
open Go Go.RowKit
/-- may the region be read so? -/
def panB (ops : Array Oper) (p : Nat) : Bool :=
  let l := ops.toList.zipIdx
  l.all fun (o, i) => (o.after.all fun e => !Region.binds .any e || decide (e.on < i)) &&
    if i ≤ p then o.guard.isNone && o.op.operands.toList.all fun x => match x with
      | .tmp t => l.all fun (o2, j) => !(decide (j < p) && o2.dst == some t) || o.after.any fun e => Region.binds .any e && e.on == j
      | _ => true
    else o.after.any fun e => Region.binds .any e && decide (p ≤ e.on)
section
variable {P : Program} {cfg : Cfg} {dl : List D} {st : St}
theorem mem_zip {ops : Array Oper} {i : Nat} {o : Oper} (ho : ops[i]? = some o) : (o, i) ∈ ops.toList.zipIdx := by
  rw [List.mem_zipIdx_iff_getElem?]
  simpa using ho
theorem panB_on {ops : Array Oper} {p i : Nat} {o : Oper} (h : panB ops p = true) (ho : ops[i]? = some o) : ∀ e ∈ o.after, Region.binds .any e = true → e.on < i := by
  intro e he hb
  have := List.all_eq_true.1 h _ (mem_zip ho)
  simp only [Bool.and_eq_true] at this
  have := List.all_eq_true.1 (by simpa using this.1 : (o.after.toList.all fun e => !Region.binds .any e || decide (e.on < i)) = true) e (by simpa using he)
  simpa [hb] using this
theorem panB_late {ops : Array Oper} {p i : Nat} {o : Oper} (h : panB ops p = true) (ho : ops[i]? = some o) (hi : p < i) : ∃ e ∈ o.after, Region.binds .any e = true ∧ p ≤ e.on := by
  have := List.all_eq_true.1 h _ (mem_zip ho)
  simp only [Bool.and_eq_true] at this
  have h2 := this.2
  rw [if_neg (by omega)] at h2
  obtain ⟨e, he, h3⟩ := Array.any_eq_true'.1 h2
  simp only [Bool.and_eq_true, decide_eq_true_eq] at h3
  exact ⟨e, he, h3⟩
theorem panB_early {ops : Array Oper} {p i : Nat} {o : Oper} (h : panB ops p = true) (ho : ops[i]? = some o) (hi : i ≤ p) :
    o.guard = none ∧ ∀ t, .tmp t ∈ o.op.operands.toList → ∀ j, j < p → (ops[j]?).bind (·.dst) = some t → ∃ e ∈ o.after, Region.binds .any e = true ∧ e.on = j := by
  have := List.all_eq_true.1 h _ (mem_zip ho)
  simp only [Bool.and_eq_true] at this
  have h2 := this.2
  rw [if_pos hi, Bool.and_eq_true] at h2
  refine ⟨by simpa using h2.1, fun t ht j hj hd => ?_⟩
  have h3 := List.all_eq_true.1 h2.2 _ ht
  simp only at h3
  cases hoj : ops[j]? with
  | none => rw [hoj] at hd; cases hd
  | some o2 =>
    rw [hoj] at hd
    have hd : o2.dst = some t := hd
    have h4 := List.all_eq_true.1 h3 _ (mem_zip hoj)
    simp only [hj, decide_true, hd, beq_self_eq_true, Bool.and_self, Bool.not_true, Bool.false_or] at h4
    obtain ⟨e, he, h5⟩ := Array.any_eq_true'.1 h4
    simp only [Bool.and_eq_true, beq_iff_eq] at h5
    exact ⟨e, he, h5⟩
theorem CallAt.congr {o : Oper} {σ τ : Nat → D} {h h' : List Ob} {n n' : Nat} {g : FuncId} {args : List D} (hc : ∀ t, .tmp t ∈ o.op.operands.toList → σ t = τ t) (h1 : CallAt o ⟨σ, h, n⟩ g args) : CallAt o ⟨τ, h', n'⟩ g args := by
  obtain ⟨cl, f, first, captured, as, ho, hcal, hargs, hfv, rfl⟩ := h1.ex
  have hx : ∀ x ∈ o.op.operands.toList, ev σ x = ev τ x := fun x hx => ev_congr fun t ht => hc t (ht ▸ hx)
  refine ⟨cl, f, first, captured, as, ho, hcal, ?_, ?_, rfl⟩
  · rw [← hargs]
    refine (evs_congr' fun x hx' => hx x ?_).symm
    rw [ho]; simp only [Op.operands, Call.operands, Array.toList_append]; exact List.mem_append_right _ hx'
  · rw [← hfv]
    refine (hx f ?_).symm
    rw [ho]; simp [Op.operands, Call.operands, hcal]

/-- a region whose order is open: the operations before the p-th, in whatever order, leave memory as it is; the p-th panics -/
structure PanAt (P : Program) (cfg : Cfg) (ops : Array Oper) (p : Nat) (st : St) (σp : Nat → D) (g : FuncId) (args : List D) : Prop where
  ok : panB ops p = true
  keep : ∀ t, (∀ j, j < p → (ops[j]?).bind (·.dst) ≠ some t) → σp t = st.σ t
  still : ∀ i o, i < p → ops[i]? = some o → ∃ t, o.dst = some t ∧ t < st.n ∧ opD P cfg (W P cfg) o ⟨σp, st.h, st.n⟩ = some (σp t, st.h)
  call : ∃ o, ops[p]? = some o ∧ CallAt o ⟨σp, st.h, st.n⟩ g args

def Done (ops : Array Oper) (p : Nat) (listed : Array Bool) (t : Nat) : Prop := ∃ j, j < p ∧ listed.getD j false = true ∧ (ops[j]?).bind (·.dst) = some t
open Classical in
theorem pan_any (F : Fit P cfg) {ops : Array Oper} {p : Nat} {σp : Nat → D} {g : FuncId} {args : List D} (A : PanAt P cfg ops p st σp g args) {d : D} {h' : List Ob} (hg : CallGo P g args st.h (.pan d) h') {c0 : Cx} {ds : List Deferred} :
    ∀ (fuel : Nat) {listed : Array Bool} {c : Cx} {a : Act}, listed.size = ops.size → left ops.size (fun j => listed.getD j false) = fuel → (∀ j, listed.getD j false = true → j < p) → Step c0 st.h c st.h → HR c → DR c dl ds → a.defers = ds →
      a.tmps.size = st.n → (∀ t, Done ops p listed t → RV c (σp t) (a.tmps.getD t undef)) → (∀ t, ¬ Done ops p listed t → RV c (st.σ t) (a.tmps.getD t undef)) → Free c st.h h' →
      wpAny P .any ops (GX c0 st (.pan d) dl ⟨fun _ => .und, h', st.n⟩) fuel listed a c.w := by
  obtain ⟨op, hop, hcall⟩ := A.call
  have hpl : p < ops.size := (Array.getElem?_eq_some_iff.1 hop).1
  intro fuel
  induction fuel with
  | zero =>
    intro listed c a hsz hf hS
    have := left_zero hf p hpl
    exact absurd (hS p this) (Nat.lt_irrefl p)
  | succ fuel ih =>
    intro listed c a hsz hf hS hst hr hdr hdf htn hT hU hfree
    -- what is ready reads what it should
    have reads : ∀ i o, i ≤ p → ops[i]? = some o → (∀ e ∈ o.after, Region.binds .any e = true → listed.getD e.on false = true) → ∀ t, .tmp t ∈ o.op.operands.toList → RV c (σp t) (a.tmps.getD t undef) := by
      intro i o hi ho hrdy t ht
      by_cases hd : ∃ j, j < p ∧ (ops[j]?).bind (·.dst) = some t
      · obtain ⟨j, hj, hdj⟩ := hd
        obtain ⟨e, he, hb, rfl⟩ := (panB_early A.ok ho hi).2 t ht j hj hdj
        exact hT t ⟨e.on, hj, hrdy e he hb, hdj⟩
      · have hno : ∀ j, j < p → (ops[j]?).bind (·.dst) ≠ some t := fun j hj h => hd ⟨j, hj, h⟩
        rw [A.keep t hno]
        exact hU t (fun ⟨j, hj, _, h⟩ => hno j hj h)
    refine ⟨fun hnil => ?_, fun i hi => ?_⟩
    · exfalso
      have : ∀ n j, j ≤ n → j < ops.size → listed.getD j false = false → ∃ i, i < ops.size ∧ listed.getD i false = false ∧ ∀ k, k < i → listed.getD k false = true := by
        intro n
        induction n with
        | zero => intro j hj h1 h2; exact ⟨j, h1, h2, fun k hk => by omega⟩
        | succ n ihn =>
          intro j hj h1 h2
          by_cases h : ∃ k, k < j ∧ listed.getD k false = false
          · obtain ⟨k, hk1, hk2⟩ := h
            exact ihn k (by omega) (by omega) hk2
          · refine ⟨j, h1, h2, fun k hk => ?_⟩
            cases hv : listed.getD k false with
            | true => rfl
            | false => exact absurd ⟨k, hk, hv⟩ h
      have hp : listed.getD p false = false := by
        cases hv : listed.getD p false with
        | false => rfl
        | true => exact absurd (hS p hv) (Nat.lt_irrefl p)
      obtain ⟨i, h1, h2, h3⟩ := this p p (Nat.le_refl _) hpl hp
      have hm : i ∈ Region.ready .any ops listed := by
        rw [mem_ready]
        have hl : i < listed.size := by omega
        exact ⟨by simp [hl] at h2 ⊢; exact h2, ops[i], Array.getElem?_eq_getElem h1, fun e he hb => h3 _ (panB_on A.ok (Array.getElem?_eq_getElem h1) e he hb)⟩
      rw [hnil] at hm; cases hm
    · rw [mem_ready] at hi
      obtain ⟨h1, o, ho, h2⟩ := hi
      have hlt : i < ops.size := (Array.getElem?_eq_some_iff.1 ho).1
      have hl : i < listed.size := by omega
      have hSi : listed.getD i false = false := by simp [hl] at h1 ⊢; exact h1
      by_cases hip : p < i
      · obtain ⟨e, he, hb, hle⟩ := panB_late A.ok ho hip
        have := hS _ (h2 e he hb)
        omega
      have hgn := (panB_early A.ok ho (by omega)).1
      have hw : Region.wanted o (yielded ops a.tmps) = true := by unfold Region.wanted; rw [hgn]
      have hrd := reads i o (by omega) ho h2
      -- the state that is looked at
      let σ' : Nat → D := fun t => if Operand.tmp t ∈ o.op.operands.toList then σp t else .und
      have hsr : SR ds c ⟨σ', st.h, st.n⟩ a := by
        refine ⟨hdf, htn, fun t => ?_, hst.ag⟩
        simp only [σ']
        split
        · exact hrd t ‹_›
        · exact .und _
      unfold wpOp
      simp only [ho]
      rw [hw, if_pos rfl]
      refine .inl ?_
      by_cases hp : i = p
      · subst hp
        rw [hop] at ho; cases ho
        refine call_wp (st := ⟨σ', st.h, st.n⟩) (hcall.congr fun t ht => by simp only [σ']; rw [if_pos ht]) hg hr hsr hfree fun e w' c' h3 h4 h5 => ⟨fun v hv => ?_, fun ch hv => ?_⟩
        · obtain ⟨v', hv', _⟩ := h5
          rw [hv] at hv'; cases hv'
        · obtain ⟨v', hv', hrv⟩ := h5
          rw [hv] at hv'; cases hv'
          exact ⟨c', h3, hst.trans h4, ⟨v', rfl, hrv⟩, ds, hdr.ext h4.ext fun _ _ _ hm => hr.lt hm, hdf, htn, fun t => .und _, h4.ag⟩
      · obtain ⟨t, hdt, htl, hopd⟩ := A.still i o (by omega) ho
        have hopd' : opD P cfg (W P cfg) o ⟨σ', st.h, st.n⟩ = some (σp t, st.h) := by
          rw [← hopd]
          exact opD_congr fun u hu => by simp only [σ']; rw [if_pos hu]
        have hfr : Free c st.h st.h := fun id h3 h4 => by omega
        refine Oper.wp_mono ?_ (opD_ok (runOk_W F) F.ext hr hsr hfr hopd')
        rintro a' w' ⟨v, c', rfl, rfl, h4, hv⟩
        have hset : ∀ j, (listed.setIfInBounds i true).getD j false = if j = i then true else listed.getD j false := by
          intro j
          by_cases hji : j = i
          · subst hji; simp [hl]
          · rw [if_neg hji, getD_set_ne false (Ne.symm hji)]
        have htl' : t < a.tmps.size := by rw [htn]; exact htl
        have hput : ∀ u, (a.put o.dst v).tmps.getD u undef = if u = t then v else a.tmps.getD u undef := by
          intro u
          rw [hdt]
          simp only [Act.put]
          rw [Array.getD_eq_getD_getElem?, Array.getElem?_setIfInBounds]
          by_cases hu : u = t
          · rw [hu, if_pos rfl, if_pos htl', if_pos rfl]; rfl
          · rw [if_neg (fun h => hu h.symm), if_neg hu, ← Array.getD_eq_getD_getElem?]
        have hfun : (fun j => (listed.setIfInBounds i true).getD j false) = fun j => if j = i then true else listed.getD j false := funext hset
        have hleft := left_set (n := ops.size) (S := fun j => listed.getD j false) hlt hSi
        refine ih (by simpa using hsz) (by rw [hfun]; omega) (fun j hj => ?_) (hst.trans h4) h4.hr (hdr.ext h4.ext fun _ _ _ hm => hr.lt hm) (by rw [hdt]; exact hdf) (by rw [hdt]; simpa [Act.put] using htn) (fun u hu => ?_) (fun u hu => ?_) (hfree.mid h4 hg.1)
        · rw [hset] at hj
          by_cases hji : j = i
          · omega
          · rw [if_neg hji] at hj; exact hS j hj
        · rw [hput]
          by_cases hut : u = t
          · rw [if_pos hut, hut]; exact hv
          · rw [if_neg hut]
            refine h4.rv hr (hT u ?_)
            obtain ⟨j, hj1, hj2, hj3⟩ := hu
            refine ⟨j, hj1, ?_, hj3⟩
            rw [hset] at hj2
            by_cases hji : j = i
            · subst hji; rw [ho] at hj3; have hj3 : o.dst = some u := hj3; rw [hdt] at hj3; cases hj3; exact absurd rfl hut
            · rw [if_neg hji] at hj2; exact hj2
        · rw [hput]
          by_cases hut : u = t
          · exact absurd ⟨i, by omega, by rw [hset, if_pos rfl], by rw [ho, hut]; exact hdt⟩ hu
          · rw [if_neg hut]
            refine h4.rv hr (hU u fun ⟨j, hj1, hj2, hj3⟩ => hu ⟨j, hj1, ?_, hj3⟩)
            rw [hset]
            split
            · rfl
            · exact hj2
theorem goes_drawpan (F : Fit P cfg) {id : Nat} {ops : Array Oper} {p : Nat} {σp : Nat → D} {g : FuncId} {args : List D} (A : PanAt P cfg ops p st σp g args) {d : D} {h' : List Ob} (hg : CallGo P g args st.h (.pan d) h') :
    Goes P (.region id ops true) dl st (.pan d) dl ⟨fun _ => .und, h', st.n⟩ := by
  refine ⟨hg.1, fun c a hr ⟨ds, hd, hs⟩ hf => wp_region_any F.mix ?_⟩
  have hdrew : Below c.w.heap.size c.w c.w.drew := (Below.refl _ _).drew
  have h1 := later_step hr hs.2.2.2 hdrew
  have hnot : ∀ t, ¬ Done ops p (Array.replicate ops.size false) t := by
    rintro t ⟨j, _, h, _⟩
    simp [Array.getElem?_replicate] at h
    split at h <;> simp at h
  refine pan_any F A hg ops.size (c := { c with w := c.w.drew }) (c0 := c) (ds := ds) (by simp) ?_ (fun j h => ?_) h1 h1.hr (hd.ext h1.ext fun _ _ _ hm => hr.lt hm) hs.1 hs.2.1 (fun t ht => absurd ht (hnot t)) (fun t _ => h1.rv hr (hs.2.2.1 t)) (hf.mid h1 hg.1)
  · have : (fun j => (Array.replicate ops.size false).getD j false) = fun _ => false := by
      funext j
      simp [Array.getElem?_replicate]
      split <;> rfl
    rw [this]
    unfold left
    rw [List.filter_eq_self.2 (by simp)]
    simp
  · simp [Array.getElem?_replicate] at h
    split at h <;> simp at h
end
end Go.Proofs.YtlpadffinfijgaaW.Vm
set_option linter.unusedVariables false
set_option linter.unusedSimpArgs false
namespace Go.Proofs.YtlpadffinfijgaaW.Vm
open Go Go.RowKit
section
variable {P : Program} {cfg : Cfg}
theorem upon_S {ops : Array Oper} {Q : Exit → Act → List Frame → World → Prop} {cs : List Frame} {o : Oper} {a : Act} {l : List Nat} {r : Result Next} {K : Act → World → Prop} (hK : ∀ a' w', K a' w' → wpOpsS P ops Q l a' cs w')
    (hno : ¬ LetsOut fun e a w => Q e a cs w) (h : o.upon P a K (fun e a w => Q e a cs w) r) : o.upon P a (fun a' w' => wpOpsS P ops Q l a' cs w') (fun e a' w' => Q e a' cs w') r := by
  unfold Oper.upon at h ⊢
  split at h
  · exact hK _ _ h
  · exact hK _ _ h
  · exact hK _ _ h
  · refine h.mono ?_
    intro e w' hh
    cases e with
    | returned v => exact hK _ _ hh
    | panicked ch => exact hh
    | outgrown => exact hh
  · exact h.mono fun v w' hh => hK _ _ hh
  · exact h
  · exact h.elim
theorem opsS_of {ops : Array Oper} {Q : Exit → Act → List Frame → World → Prop} {cs : List Frame} (hno : ¬ LetsOut fun e a w => Q e a cs w) : ∀ (l : List Nat) {a : Act} {w : World}, wpOps P ops (fun e a w => Q e a cs w) l a w → wpOpsS P ops Q l a cs w
  | [], a, w, h => h
  | i :: l, a, w, h => by
    have ih : ∀ a w, wpOps P ops (fun e a w => Q e a cs w) l a w → wpOpsS P ops Q l a cs w := fun a w h => opsS_of hno l h
    simp only [wpOps] at h
    simp only [wpOpsS]
    cases ho : ops[i]? with
    | none => simp only [ho] at h ⊢; exact ih _ _ h
    | some o =>
      simp only [ho] at h ⊢
      split at h
      · rename_i hw
        rw [if_pos hw]
        rcases h with h | ⟨_, h⟩
        · unfold Oper.wp at h
          split
          · rename_i w' hr
            rw [hr] at h
            exact h.elim
          · exact upon_S ih hno h
        · exact absurd h hno
      · rename_i hw
        rw [if_neg hw]
        exact ih _ _ h
theorem gx_no {c : Cx} {st st' : St} {e : Xit} {dl : List D} : ¬ LetsOut (GX c st e dl st') := by
  rintro ⟨a, w, c', _, _, hx, _⟩
  cases e with
  | ex e => have hx : Exit.outgrown = exitOf e := hx; cases e <;> cases hx
  | pan d => obtain ⟨v, hv, _⟩ := hx; cases hv
/-- what recover finds -/
def recD : Option D → D
  | none => .nili
  | some d => d
theorem defGo_of {g : FuncId} {fn : Func} {id : Nat} {ops : Array Oper} {rest : Code} (hf : P.funcs[g]? = some fn) (hb : fn.body = some (.seq (.region id ops false) rest)) (hn : (fn.name == "runtime.NumGoroutine") = false) {args : List D} {h : List Ob} {o : Oper}
    (ho : ops[0]? = some o) (hgn : o.guard = none) {cl : Call} (hop : o.op = .call cl) (hcal : cl.callee = .builtin .recover) (hargs : cl.args = #[]) {x : Option D} {s0 s1 st' : St} (hp : put ⟨argsσ args, h, max args.length fn.ntmps⟩ o.dst (recD x) = some s0)
    (h1 : OpsGo P ops 1 [] s0 (.ex .normal) [] s1) {y : Ex} (hy : y = .normal ∨ y = .ret) (h2 : Goes P rest [] s1 (.ex y) [] st') {d : D} (hres : Vm.results P fn st' = some d) : DefGo P g args x h st'.h := by
  have hh : s0.h = h := (put_h hp).1
  have hl1 : h.length ≤ s1.h.length := by have := h1.1; rwa [hh] at this
  refine ⟨Nat.le_trans hl1 h2.1, ⟨fn, hf, by simp [hb], hn⟩, fun c hr ag hfr vs ha u hu => callsD_of_wpS hf hb fun c₀ cs hmode => ?_⟩
  have hlt : 0 < ops.size := (Array.getElem?_eq_some_iff.1 ho).1
  obtain ⟨dls, hdr, hsr⟩ := start_srd (fn := fn) ag ha
  cases hdr
  generalize hact : ({ tmps := vs ++ Array.replicate (fn.ntmps - vs.size) undef, defers := [] } : Act) = act at hsr
  refine wpS_seq (wpS_region ?_)
  rw [List.range_eq_range', show ops.size = (ops.size - 1) + 1 by omega, List.range'_succ]
  simp only [wpOpsS, ho]
  have hw : Region.wanted o (yielded ops act.tmps) = true := by unfold Region.wanted; rw [hgn]
  rw [hw, if_pos rfl]
  have hrun : (execOp act.eval o).run P c.w = .ok .recover c.w := by
    simp [execOp, hop, resolve, hcal, hargs, invoke, builtin]
  simp only [hrun]
  -- behind recover
  have tail : ∀ (v : Value) (u' : FrameMode), RV c (recD x) v → settle u' = .returning →
      wpOpsS P ops (Exit.thenS (rest.wpS P (bodyPostS P fn c₀ cs fun e u' w' => (∃ v, e = .returned v) ∧ settle u' = .returning ∧ ∃ c', c'.w = w' ∧ Step c h c' st'.h)) (bodyPostS P fn c₀ cs fun e u' w' => (∃ v, e = .returned v) ∧ settle u' = .returning ∧ ∃ c', c'.w = w' ∧ Step c h c' st'.h))
        (List.range' (0 + 1) (ops.size - 1)) (act.put o.dst v) ({ c₀ with mode := u' } :: cs) c.w := by
    intro v u' hv hset
    obtain ⟨e1, e2, e3, e4⟩ := put_sr hsr.1 hsr.2.1 hsr.2.2.1 hv hp
    have hs0 : SRD c [] s0 (act.put o.dst v) := ⟨[], .nil, e1, e2, e3, by rw [hh]; exact ag⟩
    have hgo := h1.2 c _ hr hs0 (by rw [hh]; exact hfr.left h2.1)
    refine opsS_of ?_ _ (wpOps_mono ?_ _ hgo)
    · rintro ⟨a', w', hq⟩
      obtain ⟨u2, ⟨v2, hv2⟩, _⟩ : ∃ u', (∃ v, Ending.outgrown = .returned v) ∧ settle u' = .returning ∧ _ := hq
      cases hv2
    · rintro e a' w' ⟨c', rfl, hstep, rfl, hsr'⟩
      show rest.wpS P _ a' _ c'.w
      rw [hh] at hstep
      refine wpS_of_wp (wp_mono (h2.2 c' a' hstep.hr hsr' (hfr.mid hstep h2.1)) ?_)
      rintro e a2 w2 ⟨c2, rfl, hst2, rfl, ds2, hd2, hs2⟩
      cases hd2
      obtain ⟨v2, k1, k2⟩ := results_ok hst2.hr hs2 hres
      rcases hy with rfl | rfl <;> exact ⟨hs2.1, u', rfl, v2, k1, ⟨v2, rfl⟩, hset, c2, rfl, hstep.trans hst2⟩
  cases x with
  | none =>
    have hu : u = .returning := hu
    subst hu
    have hrec : recoverD (c₀ :: cs) = none := by simp [recoverD, hmode]
    simp only [hrec]
    have := tail .nilIface .returning (.cl .nili) rfl
    rw [show ({ c₀ with mode := .returning } : Frame) = c₀ by rw [← hmode]] at this
    exact this
  | some dv =>
    obtain ⟨v, hu, hv⟩ := hu
    subst hu
    have hrec : recoverD (c₀ :: cs) = some (v, { c₀ with mode := .panicking [{ v := v, recovered := true }] } :: cs) := by simp [recoverD, hmode]
    simp only [hrec]
    exact tail v _ hv rfl
end
end Go.Proofs.YtlpadffinfijgaaW.Vm
set_option linter.unusedVariables false
set_option linter.unusedSimpArgs false
namespace Go.Proofs.YtlpadffinfijgaaW.Vm
open Go Go.RowKit
section
variable {P : Program} {cfg : Cfg} {e : FuncId → Option (List D → Option D)} {r r' : Run}
theorem op_mkIfc {run : Run} (dst t x ty pos af g) (st : St) {u : TypeDesc} (hu : P.underlying t = some u) (hni : ∀ m, u ≠ .interface m) : opD P cfg run ⟨dst, .makeInterface t x, ty, pos, af, g⟩ st = (ev st.σ x).bind fun d => some (.ifc t d, st.h) := by
  simp only [opD, hu]
  cases ev st.σ x with
  | none => rfl
  | some d => cases u <;> first | exact absurd rfl (hni _) | rfl
/-! a panic, whatever the numbers are then -/
def PanTo (P : Program) (code : Code) (dl : List D) (st : St) (d : D) (dl' : List D) (h' : List Ob) : Prop := ∃ s', Goes P code dl st (.pan d) dl' s' ∧ s'.h = h'
theorem panTo_seq (F : Fit P cfg) {x y : Code} {dl dl' : List D} {st s1 : St} {d : D} {h' : List Ob} (h1 : W P cfg x st = some (.normal, s1)) (h2 : PanTo P y dl s1 d dl' h') : PanTo P (.seq x y) dl st d dl' h' := by
  obtain ⟨s', h2, e⟩ := h2
  exact ⟨s', goes_seq (goes_W F h1) h2, e⟩
theorem panTo_left {x y : Code} {dl dl' : List D} {st : St} {d : D} {h' : List Ob} (h : PanTo P x dl st d dl' h') : PanTo P (.seq x y) dl st d dl' h' := by
  obtain ⟨s', h, e⟩ := h
  exact ⟨s', goes_stop h (by simp), e⟩
theorem panTo_cond {o : Operand} {x y : Code} {b : Bool} {dl dl' : List D} {st : St} {d : D} {h' : List Ob} (hb : ev st.σ o = some (.bool b)) (h : PanTo P (if b then x else y) dl st d dl' h') : PanTo P (.cond o x y) dl st d dl' h' := by
  obtain ⟨s', h, e⟩ := h
  exact ⟨s', goes_cond hb h, e⟩
theorem panTo_block {id : Nat} {x : Code} {dl dl' : List D} {st : St} {d : D} {h' : List Ob} (h : PanTo P x dl st d dl' h') : PanTo P (.block id x) dl st d dl' h' := by
  obtain ⟨s', h, e⟩ := h
  exact ⟨s', goes_block h, e⟩
theorem panTo_region {id : Nat} {ops : Array Oper} {dl dl' : List D} {st s' : St} {d : D} (h : OpsGo P ops 0 dl st (.pan d) dl' s') : PanTo P (.region id ops false) dl st d dl' s'.h := ⟨s', goes_region h, rfl⟩
theorem panTo_draw (F : Fit P cfg) {id : Nat} {ops : Array Oper} {p : Nat} {σp : Nat → D} {g : FuncId} {args : List D} {st : St} (A : PanAt P cfg ops p st σp g args) {d : D} {h' : List Ob} {dl : List D} (hg : CallGo P g args st.h (.pan d) h') :
    PanTo P (.region id ops true) dl st d dl h' := ⟨_, goes_drawpan F A hg, rfl⟩
theorem panTo_panic (F : Fit P cfg) {id : Nat} {ops : Array Oper} {dl : List D} {st s1 : St} {n : Nat} {o : Oper} (ho : ops[n]? = some o) (hg : o.guard = none) {x : Operand} (hop : o.op = .panic x) (h : opsD P cfg (W P cfg) ops (ops.toList.take n) st = some s1)
    {t : TypeId} {d : D} (hx : ev s1.σ x = some (.ifc t d)) {h' : List Ob} (hh : s1.h = h') : PanTo P (.region id ops false) dl st (.ifc t d) dl h' := by
  subst hh
  exact panTo_region (opsGo_steps F n 0 (by omega) (Nat.le_of_lt (Array.getElem?_eq_some_iff.1 ho).1) (by simpa using h) (opsGo_panic ho (by unfold wantD; rw [hg]) hop hx))
theorem panTo_call (F : Fit P cfg) {id : Nat} {ops : Array Oper} {dl : List D} {st s1 : St} {n : Nat} {o : Oper} (ho : ops[n]? = some o) (hg : o.guard = none) (h : opsD P cfg (W P cfg) ops (ops.toList.take n) st = some s1)
    {g : FuncId} {args : List D} (hc : CallAt o s1 g args) {d : D} {h' : List Ob} (hgo : CallGo P g args s1.h (.pan d) h') : PanTo P (.region id ops false) dl st d dl h' :=
  panTo_region (s' := { s1 with h := h' }) (opsGo_steps F n 0 (by omega) (Nat.le_of_lt (Array.getElem?_eq_some_iff.1 ho).1) (by simpa using h) (opsGo_callpan ho (by unfold wantD; rw [hg]) hc hgo))
theorem callGo_panTo {f : FuncId} {fn : Func} {code : Code} (hf : P.funcs[f]? = some fn) (hb : fn.body = some code) (hn : (fn.name == "runtime.NumGoroutine") = false) {args : List D} {h h' : List Ob} {d : D}
    (hg : PanTo P code [] ⟨argsσ args, h, max args.length fn.ntmps⟩ d [] h') : CallGo P f args h (.pan d) h' := by
  obtain ⟨s', hg, rfl⟩ := hg
  exact callGo_pan hf hb hn hg
/-- from a place of a scope on -/
def PanS (P : Program) (cur body : Code) (dl : List D) (st : St) (d : D) (dl' : List D) (h' : List Ob) : Prop := ∃ s', GoesS P cur body dl st (.pan d) dl' s' ∧ s'.h = h'
theorem panS_goto (F : Fit P cfg) {cur body rest : Code} {l : Nat} {dl dl' : List D} {st s1 : St} {d : D} {h' : List Ob} (h1 : W P cfg cur st = some (.goto l, s1)) (hl : findLabel body l = some rest) (h2 : PanS P rest body dl s1 d dl' h') : PanS P cur body dl st d dl' h' := by
  obtain ⟨s', h2, e⟩ := h2
  exact ⟨s', goesS_goto (goes_W F h1) hl h2, e⟩
theorem panS_end {cur body : Code} {dl dl' : List D} {st : St} {d : D} {h' : List Ob} (h : PanTo P cur dl st d dl' h') : PanS P cur body dl st d dl' h' := by
  obtain ⟨s', h, e⟩ := h
  exact ⟨s', goesS_end h (by simp), e⟩
theorem goesS_seq {x y body : Code} {dl d1 d2 : List D} {st s1 st' : St} {e : Xit} (h1 : Goes P x dl st (.ex .normal) d1 s1) (h2 : GoesS P y body d1 s1 e d2 st') : GoesS P (.seq x y) body dl st e d2 st' := by
  refine ⟨Nat.le_trans h1.1 h2.1, fun c a hr hs hf b k cs => ?_⟩
  obtain ⟨e1, a1, w1, ⟨c', rfl, hstep, hx, hsr⟩, harr⟩ := h1.2 c a hr hs (hf.left h2.1) b (.code y :: .inScope body :: k) cs
  obtain rfl : e1 = .normal := hx
  obtain ⟨e2, a2, w2, hq, harr2⟩ := h2.2 c' a1 hstep.hr hsr (hf.mid hstep h2.1) b k cs
  exact ⟨e2, a2, w2, hq.pre hstep, .of_steps (.head step_seq harr) harr2⟩
theorem panS_seq (F : Fit P cfg) {x y body : Code} {dl dl' : List D} {st s1 : St} {d : D} {h' : List Ob} (h1 : W P cfg x st = some (.normal, s1)) (h2 : PanS P y body dl s1 d dl' h') : PanS P (.seq x y) body dl st d dl' h' := by
  obtain ⟨s', h2, e⟩ := h2
  exact ⟨s', goesS_seq (goes_W F h1) h2, e⟩
theorem panTo_scope {b : Code} {dl dl' : List D} {st : St} {d : D} {h' : List Ob} (h : PanS P b b dl st d dl' h') : PanTo P (.scope b) dl st d dl' h' := by
  obtain ⟨s', h, e⟩ := h
  exact ⟨s', goes_scope h, e⟩
def FLe (P : Program) (cfg cfg' : Cfg) (r r' : Run) : Prop := ∀ g as x, fnc P cfg r g as = some x → fnc P cfg' r' g as = some x
theorem callD_e (h : RLe r r') (hf : FLe P cfg { cfg with ext := e } r r') {f : FuncId} {args : List D} {hp : List Ob} {x} (hb : callD P cfg r hp f args = some x) : callD P { cfg with ext := e } r' hp f args = some x := by
  unfold callD at hb ⊢
  split at hb
  · rename_i hs; rw [if_pos hs]; exact body_le h hb
  · rename_i hs
    rw [if_neg hs]
    split at hb
    · rename_i as ha
      try simp only [ha]
      split at hb
      · rename_i hc
        rw [if_pos hc]
        split at hb
        · rename_i r2 hr; rw [hf _ _ _ hr]; exact hb
        · cases hb
      · cases hb
    · cases hb
theorem opD_e (h : RLe r r') (hf : FLe P cfg { cfg with ext := e } r r') {o : Oper} {st : St} {x} (hb : opD P cfg r o st = some x) : opD P { cfg with ext := e } r' o st = some x := by
  unfold opD at hb ⊢
  simp only at hb ⊢
  split at hb
  case h_23 cl ho =>
    split at hb
    · exact hb
    · split at hb
      · exact callD_e h hf hb
      · cases hb
    · cases hb
  all_goals exact hb
theorem stepD_e (h : RLe r r') (hf : FLe P cfg { cfg with ext := e } r r') {ops : Array Oper} {o : Oper} {st : St} {x} (hb : stepD P cfg r ops o st = some x) : stepD P { cfg with ext := e } r' ops o st = some x := by
  unfold stepD at hb ⊢
  split at hb
  · split at hb
    · rename_i ho; rw [opD_e h hf ho]; exact hb
    · cases hb
  · exact hb
  · cases hb
theorem opsD_e (h : RLe r r') (hf : FLe P cfg { cfg with ext := e } r r') {ops : Array Oper} : ∀ {l : List Oper} {st : St} {x}, opsD P cfg r ops l st = some x → opsD P { cfg with ext := e } r' ops l st = some x
  | [], st, x, hb => hb
  | o :: l, st, x, hb => by
    simp only [opsD] at hb ⊢
    split at hb
    · rename_i he; rw [stepD_e h hf he]; exact opsD_e h hf hb
    · cases hb
theorem drawOps_e (h : RLe r r') (hf : FLe P cfg { cfg with ext := e } r r') {ops : Array Oper} : ∀ {l : List (Oper × Nat)} {st : St} {ls es x}, drawOps P cfg r ops l st ls es = some x → drawOps P { cfg with ext := e } r' ops l st ls es = some x
  | [], st, ls, es, x, hb => hb
  | (o, i) :: l, st, ls, es, x, hb => by
    simp only [drawOps] at hb ⊢
    split at hb
    · rename_i hw he; rw [hw, stepD_e h hf he]; exact drawOps_e h hf hb
    · cases hb
theorem regionD_e (h : RLe r r') (hf : FLe P cfg { cfg with ext := e } r r') {ops : Array Oper} {dr : Bool} {st : St} {x} (hb : regionD P cfg r ops dr st = some x) : regionD P { cfg with ext := e } r' ops dr st = some x := by
  unfold regionD at hb ⊢
  split at hb
  · rename_i hd
    rw [if_pos hd]
    have hi : drawInfo P { cfg with ext := e } ops = drawInfo P cfg ops := rfl
    rw [hi]
    split at hb
    · rename_i un hu
      try simp only [hu]
      split at hb
      · rename_i he
        have hf' : FLe P { cfg with nomark := true } { { cfg with nomark := true } with ext := e } r r' := hf
        have := drawOps_e h hf' he
        simp only [this]
        exact hb
      · cases hb
    · cases hb
  · rename_i hd; rw [if_neg hd]; exact opsD_e h hf hb
/-- a function that had none gets a law of its own -/
noncomputable def Cfg.plus (P : Program) (cfg : Cfg) (f : FuncId) (sp : List D → Option D) : Cfg :=
  { cfg with ext := fun g => if g = f then some fun args => (fnc P cfg (W P cfg) f args).or (sp args) else cfg.ext g }
variable {f : FuncId} {sp : List D → Option D}
theorem fnc_plus (run : Run) (args : List D) : fnc P (cfg.plus P f sp) run f args = (fnc P cfg (W P cfg) f args).or (sp args) := by
  unfold fnc
  have : (cfg.plus P f sp).ext f = some fun args => (fnc P cfg (W P cfg) f args).or (sp args) := by simp [Cfg.plus]
  rw [this]; rfl
theorem fle_plus (k : Nat) (h : RLe (exec P cfg k) (exec P (cfg.plus P f sp) k)) : FLe P cfg (cfg.plus P f sp) (exec P cfg k) (exec P (cfg.plus P f sp) k) := by
  intro g as x hx
  by_cases hg : g = f
  · subst hg
    rw [fnc_plus, fnc_le (exec_W k) hx]; rfl
  · have he : (cfg.plus P f sp).ext g = cfg.ext g := by simp [Cfg.plus, hg]
    unfold fnc at hx ⊢
    rw [he]
    split at hx
    · exact hx
    · split at hx
      · rename_i hb; rw [body_le h hb]; exact hx
      · cases hx
theorem exec_plus : ∀ k : Nat, RLe (exec P cfg k) (exec P (cfg.plus P f sp) k)
  | 0 => fun c st x h => by simp [exec] at h
  | k + 1 => fun c st x h => by
    have ih := exec_plus k
    cases c with
    | skip => simpa only [exec] using h
    | label => simpa only [exec] using h
    | region id ops dr =>
      rw [ex_region] at h ⊢
      simp only [Option.map_eq_some_iff] at h ⊢
      obtain ⟨s, h, e⟩ := h
      exact ⟨s, regionD_e ih (fle_plus k ih) h, e⟩
    | seq a b =>
      rw [ex_seq] at h ⊢
      split at h
      · rename_i s he; rw [ih _ _ _ he]; exact ih _ _ _ h
      · rename_i hn
        rw [ih _ _ _ h]
        obtain ⟨e, s⟩ := x
        cases e with
        | normal => exact absurd h (hn s)
        | _ => rfl
    | cond y a b =>
      rw [ex_cond] at h ⊢
      split at h
      · rename_i he; try simp only [he]
        exact ih _ _ _ h
      · rename_i he; try simp only [he]
        exact ih _ _ _ h
      · cases h
    | block id b =>
      rw [ex_block] at h ⊢
      split at h
      · rename_i i s he; rw [ih _ _ _ he]; exact h
      · rename_i hn
        rw [ih _ _ _ h]
        obtain ⟨e, s⟩ := x
        cases e with
        | exit i => exact absurd h (hn i s)
        | _ => rfl
    | loop b =>
      rw [ex_loop] at h ⊢
      split at h
      · rename_i s he; rw [ih _ _ _ he]; exact ih _ _ _ h
      · rename_i hn
        rw [ih _ _ _ h]
        obtain ⟨e, s⟩ := x
        cases e with
        | normal => exact absurd h (hn s)
        | _ => rfl
    | scope b =>
      rw [ex_scope] at h ⊢
      exact scopeD_le ih (Nat.le_refl k) h
    | exit => simpa only [exec] using h
    | goto => simpa only [exec] using h
    | ret => simpa only [exec] using h
    | refuse => simp [exec] at h
    | rangeFunc => simp [exec] at h
theorem W_plus : RLe (W P cfg) (W P (cfg.plus P f sp)) := fun c st x h => by
  obtain ⟨k, hk⟩ := W_iff.1 h
  exact W_iff.2 ⟨k, exec_plus k _ _ _ hk⟩
theorem fnc_up {g : FuncId} {args : List D} {x : D} (h : fnc P cfg (W P cfg) g args = some x) : fnc P (cfg.plus P f sp) (W P (cfg.plus P f sp)) g args = some x := by
  obtain ⟨k, hk⟩ := fnc_k h
  exact fnc_le (exec_W k) (fle_plus k (exec_plus k) _ _ _ hk)
theorem body_up {g : FuncId} {args : List D} {h : List Ob} {x} (hb : body P (W P cfg) g args h = some x) : body P (W P (cfg.plus P f sp)) g args h = some x := body_le W_plus hb
theorem plus_fit (F : Fit P cfg) (hok : FnOk P f) (hs : ∀ args r, sp args = some r → ∃ d h, CallGo P f args [] (.ret d) h ∧ exp1 h d = some r ∧ clean r = true) : Fit P (cfg.plus P f sp) := by
  refine ⟨⟨fun g t hg => ?_⟩, F.mix⟩
  by_cases hgf : g = f
  · subst hgf
    have : (cfg.plus P g sp).ext g = some fun args => (fnc P cfg (W P cfg) g args).or (sp args) := by simp [Cfg.plus]
    rw [this] at hg
    cases hg
    refine ⟨hok, fun args r hr w L vs hL ha => ?_⟩
    cases hx : fnc P cfg (W P cfg) g args with
    | some y =>
      simp only [hx] at hr
      cases hr
      exact (fnc_ok (runOk_W F) F.ext hx hL ha).2
    | none =>
      simp only [hx] at hr
      obtain ⟨d, h, hgo, hex, hcl⟩ := hs args r hr
      have hargs : RVs (cx0 w L) args vs.toList := RCs.rv (c := cx0 w L) (ha.keep fun b off u h1 h2 => ⟨h1, fun h => h2 ((live0 hL b off).1 h)⟩)
      refine (hgo.2.2 (cx0 w L) (hr0 w L) (fun id hid => by simp at hid) (fun id h1 h2 => ⟨rfl, rfl⟩) vs hargs).mono ?_
      rintro e w' ⟨c', rfl, hstep, v, rfl, hrv⟩
      refine ⟨v, rfl, hstep.bel, hcl, ?_⟩
      refine exp1_rc hstep.hr hstep.ag (fun b off hl hL' => hl (.inl ?_)) d hrv hex hcl ?_
      · rw [hstep.ext.N0, hstep.ext.L0]; exact ⟨hL b off hL', hL'⟩
      · intro m _ b base o hm _ off _ hL'
        have h3 := hstep.hr.ge _ _ _ hm
        rw [hstep.ext.N0] at h3
        have := hL b off hL'
        have h4 : w.heap.size ≤ b := h3
        omega
  · have : (cfg.plus P f sp).ext g = cfg.ext g := by simp [Cfg.plus, hgf]
    rw [this] at hg
    exact F.ext.ok g t hg
end
end Go.Proofs.YtlpadffinfijgaaW.Vm
set_option linter.unusedVariables false
set_option linter.unusedSimpArgs false
namespace Go.Proofs.YtlpadffinfijgaaW.Vm
open Go Go.RowKit
section
variable {P : Program} {cfg : Cfg} {dl d2 : List D} {st st' : St} {e : Xit}
theorem opsGo_zero {ops : Array Oper} {k : Nat} {o o' : Oper} (ho : ops[k]? = some o) (ho' : ops[k + 1]? = some o') (hg : o.guard = none) (hg' : o'.guard = none) {t u v : Nat} (hop : o.op = .alloc t) (hd : o.dst = some v) (hop' : o'.op = .store t (.tmp v) (.tmp u)) (hd' : o'.dst = none)
    (hne : u ≠ v) (hz : zeroT P t = some (.agg [])) (hs : szT P t = some 0) (hu : st.σ u = .agg []) (hv : v < st.n) (h2 : OpsGo P ops (k + 2) dl { st with σ := upd st.σ v .und } e d2 st') : OpsGo P ops k dl st e d2 st' := by
  refine ⟨h2.1, fun c a hr ⟨ds, hdr, hsr⟩ hf => ?_⟩
  have hlt : k + 1 < ops.size := (Array.getElem?_eq_some_iff.1 ho').1
  rw [show ops.size - k = (ops.size - (k + 2)) + 1 + 1 by omega, List.range'_succ, List.range'_succ, wpOps_cons]
  unfold wpOp
  simp only [ho]
  rw [show Region.wanted o (yielded ops a.tmps) = true by unfold Region.wanted; rw [hg], if_pos rfl]
  obtain ⟨zv, z1, z2⟩ := run_zero (w := c.w) hz
  have hcells : zv.cells = #[] := by
    have := RV.cl (c := c) (ofVal_rc z2)
    cases this with
    | cl h => cases h with | agg h => rename_i vs; cases vs with | mk l => cases h; rfl
    | agg h => rename_i vs; cases vs with | mk l => cases h; rfl
  refine .inl ?_
  unfold Oper.wp
  rw [show (execOp a.eval o).run P c.w = .ok (.value (.pointer (some ⟨c.w.heap.size, 0, none⟩))) (c.w.alloc (.cells #[] t)) by
    simp [execOp, hop, Instr.alloc, z1, newVar, newRow, hcells], Oper.upon_value, wpOps_cons]
  have hb : Below c.w.heap.size c.w (c.w.alloc (.cells #[] t)) := (Below.refl _ _).alloc (Nat.le_refl _) _
  have hst := later_step hr hsr.2.2.2 hb
  unfold wpOp
  simp only [ho']
  rw [show Region.wanted o' (yielded ops (a.put o.dst (.pointer (some ⟨c.w.heap.size, 0, none⟩))).tmps) = true by unfold Region.wanted; rw [hg'], if_pos rfl]
  obtain ⟨e1, e2, e3, e4⟩ := put_sr (st := st) (st' := { st with σ := upd st.σ v .und }) (dst := o.dst) (d := .und) (v := .pointer (some ⟨c.w.heap.size, 0, none⟩)) hsr.1 hsr.2.1 (fun t => hst.rv hr (hsr.2.2.1 t)) (.und _) (by rw [hd]; simp [put, hv])
  have hvv : (a.put o.dst (.pointer (some ⟨c.w.heap.size, 0, none⟩))).eval (.tmp v) = .pointer (some ⟨c.w.heap.size, 0, none⟩) := by
    rw [hd]
    have : v < a.tmps.size := by rw [hsr.2.1]; exact hv
    simp [Act.put, Act.eval, this]
  have hvu : ((a.put o.dst (.pointer (some ⟨c.w.heap.size, 0, none⟩))).eval (.tmp u)).cells = #[] := by
    have h3 := e3 u
    simp only [upd, if_neg hne, hu] at h3
    have h4 : RV { c with w := c.w.alloc (.cells #[] t) } (.agg []) ((a.put o.dst (.pointer (some ⟨c.w.heap.size, 0, none⟩))).eval (.tmp u)) := h3
    generalize (a.put o.dst (.pointer (some ⟨c.w.heap.size, 0, none⟩))).eval (.tmp u) = q at h4
    cases h4 with
    | cl h => cases h with | agg h => rename_i vs; cases vs with | mk l => cases h; rfl
    | agg h => rename_i vs; cases vs with | mk l => cases h; rfl
  refine .inl ?_
  unfold Oper.wp
  rw [show (execOp (a.put o.dst (.pointer (some ⟨c.w.heap.size, 0, none⟩))).eval o').run P (c.w.alloc (.cells #[] t)) = .ok .skip (c.w.alloc (.cells #[] t)) by
    simp only [execOp, hop', hvv, Instr.storeAt, Instr.sureAddr, storeVar, Sem.run_bind, Sem.run_pure, Result.andThen_ok, run_sizeOf hs, hvu]
    simp [storeCells], Oper.upon_skip, hd']
  refine wpOps_mono (fun e a w hq => hq.pre (s1 := { st with σ := upd st.σ v .und }) hst) _ (h2.2 _ _ hst.hr ⟨ds, hdr.ext hst.ext fun _ _ _ hm => hr.lt hm, e1, e2, e3, hst.ag⟩ (hf.mid hst h2.1))
end
end Go.Proofs.YtlpadffinfijgaaW.Vm
