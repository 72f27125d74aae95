/- One operation of the plain machine is one of the model's; calls too. No conditions. -/
import Derived.Test.YtlpadffinfijgaaVmCall
set_option linter.unusedVariables false
set_option linter.unusedSimpArgs false
namespace Go.Proofs.YtlpadffinfijgaaW.Vm
open Go Go.RowKit

def exitOf : Ex → Exit
  | .normal => .normal
  | .exit id => .exit id
  | .goto l => .goto l
  | .ret => .ret
def SR (ds : List Deferred) (c : Cx) (st : St) (a : Act) : Prop := a.defers = ds ∧ a.tmps.size = st.n ∧ (∀ t, RV c (st.σ t) (a.tmps.getD t undef)) ∧ Ag c st.h
def RunOk (P : Program) (run : Run) : Prop :=
  ∀ code st e st', run code st = some (e, st') → ∀ (ds : List Deferred) (c : Cx) (a : Act), HR c → SR ds c st a → Free c st.h st'.h →
    code.wp P (fun x a' w' => x = exitOf e ∧ ∃ c', c'.w = w' ∧ Step c st.h c' st'.h ∧ SR ds c' st' a') a c.w
def FnOk (P : Program) (f : FuncId) : Prop := ∃ fn, P.funcs[f]? = some fn ∧ fn.body.isNone = false ∧ (fn.name == "runtime.NumGoroutine") = false
structure ExtOk (P : Program) (cfg : Cfg) : Prop where
  ok : ∀ f g, cfg.ext f = some g → FnOk P f ∧ ∀ args r, g args = some r → ∀ (w : World) (L : Nat → Nat → Prop) (vs : Array Value), (∀ b off, L b off → b < w.heap.size) → RCs w L args vs.toList →
    Calls P f vs w fun e w' => ∃ v, e = .returned v ∧ Below w.heap.size w w' ∧ clean r = true ∧ RC w' L r v

section
variable {P : Program} {cfg : Cfg} {c : Cx} {ds : List Deferred}

def oneR (tmps : Array Value) : ResultVar → Sem Value
  | .tmp t => pure (tmps.getD t undef)
  | .cell b t => do loadVar t (← asAddr (tmps.getD b undef))
theorem results_eq (fn : Func) (tmps : Array Value) : Go.results fn tmps = (do let vs ← fn.results.mapM (oneR tmps); pure (if h : vs.size = 1 then vs[0] else .tuple vs)) := by
  have : oneR tmps = (fun x => match x with | .tmp t => pure (tmps.getD t undef) | .cell b t => do loadVar t (← asAddr (tmps.getD b undef))) := by funext x; cases x <;> rfl
  rw [this]; rfl
theorem one_ok {st : St} {a : Act} (hr : HR c) (hs : SR ds c st a) {x : ResultVar} {d : D} (h : (match x with | .tmp t => some (st.σ t) | .cell b t => ldD P st.h t (st.σ b)) = some d) :
    ∃ v, (oneR a.tmps x).run P c.w = .ok v c.w ∧ RV c d v := by
  cases x with
  | tmp t => simp only [Option.some.injEq] at h; subst h; exact ⟨_, rfl, hs.2.2.1 t⟩
  | cell b t =>
    simp only at h
    obtain ⟨u, h1, h2⟩ := run_load hr hs.2.2.2 (hs.2.2.1 b) h
    refine ⟨u, ?_, h2⟩
    have hp : ∃ ad, a.tmps.getD b undef = .pointer (some ad) := by
      have hx := hs.2.2.1 b
      generalize st.σ b = p at h hx
      cases p <;> simp only [ldD] at h <;> first
        | exact hx.ptrS
        | (obtain ⟨_, _, _, e, _⟩ := hx.fptr'; exact ⟨_, e⟩)
        | (split at h <;> simp_all)
    obtain ⟨ad, hp⟩ := hp
    rw [hp] at h1
    simp only [oneR, hp]
    simpa [Instr.loadAt, Instr.sureAddr, asAddr] using h1

theorem results_ok {fn : Func} {st : St} {a : Act} {d : D} (hr : HR c) (hs : SR ds c st a) (h : Vm.results P fn st = some d) : ∃ v, (Go.results fn a.tmps).run P c.w = .ok v c.w ∧ RV c d v := by
  unfold Vm.results at h
  simp only at h
  split at h
  · rename_i r hl
    have hl' : fn.results = #[r] := by rw [← Array.toList_inj]; exact hl
    obtain ⟨v, h1, h2⟩ := one_ok hr hs h
    refine ⟨v, ?_, h2⟩
    simp only [results_eq, hl', Array.mapM_eq_mapM_toList, List.mapM_cons, List.mapM_nil, Sem.run_bind, Sem.run_pure, Sem.run_map]
    simp [h1]
  · rename_i hl
    simp only [Option.some.injEq] at h; subst h
    have hl' : fn.results = #[] := by rw [← Array.toList_inj]; exact hl
    refine ⟨.tuple #[], ?_, .tup .nil⟩
    simp [Go.results, hl']
  · rename_i r s hl
    have hl' : fn.results = #[r, s] := by rw [← Array.toList_inj]; exact hl
    split at h
    · rename_i d1 d2 e1 e2
      simp only [Option.some.injEq] at h; subst h
      obtain ⟨v1, h1, h2⟩ := one_ok hr hs e1
      obtain ⟨v2, h3, h4⟩ := one_ok hr hs e2
      refine ⟨.tuple #[v1, v2], ?_, .tup (.cons h2 (.cons h4 .nil))⟩
      simp only [results_eq, hl', Array.mapM_eq_mapM_toList, List.mapM_cons, List.mapM_nil, Sem.run_bind, Sem.run_pure, Sem.run_map]
      simp [h1, h3]
    · cases h
  · rename_i r s t hl
    have hl' : fn.results = #[r, s, t] := by rw [← Array.toList_inj]; exact hl
    split at h
    · rename_i d1 d2 d3 e1 e2 e3
      simp only [Option.some.injEq] at h; subst h
      obtain ⟨v1, h1, h2⟩ := one_ok hr hs e1
      obtain ⟨v2, h3, h4⟩ := one_ok hr hs e2
      obtain ⟨v3, h5, h6⟩ := one_ok hr hs e3
      refine ⟨.tuple #[v1, v2, v3], ?_, .tup (.cons h2 (.cons h4 (.cons h6 .nil)))⟩
      simp only [results_eq, hl', Array.mapM_eq_mapM_toList, List.mapM_cons, List.mapM_nil, Sem.run_bind, Sem.run_pure, Sem.run_map]
      simp [h1, h3, h5]
    · cases h
  · rename_i r s t u hl
    have hl' : fn.results = #[r, s, t, u] := by rw [← Array.toList_inj]; exact hl
    split at h
    · rename_i d1 d2 d3 d4 e1 e2 e3 e4
      simp only [Option.some.injEq] at h; subst h
      obtain ⟨v1, h1, h2⟩ := one_ok hr hs e1
      obtain ⟨v2, h3, h4⟩ := one_ok hr hs e2
      obtain ⟨v3, h5, h6⟩ := one_ok hr hs e3
      obtain ⟨v4, h7, h8⟩ := one_ok hr hs e4
      refine ⟨.tuple #[v1, v2, v3, v4], ?_, .tup (.cons h2 (.cons h4 (.cons h6 (.cons h8 .nil))))⟩
      simp only [results_eq, hl', Array.mapM_eq_mapM_toList, List.mapM_cons, List.mapM_nil, Sem.run_bind, Sem.run_pure, Sem.run_map]
      simp [h1, h3, h5, h7]
    · cases h
  · cases h

theorem args_rv {args : List D} {vs : Array Value} (h : RVs c args vs.toList) (m : Nat) (t : Nat) : RV c (argsσ args t) ((vs ++ Array.replicate m undef).getD t undef) := by
  unfold argsσ
  by_cases ht : t < args.length
  · obtain ⟨u, h1, h2⟩ := h.get (List.getElem?_eq_getElem ht)
    have hv : vs[t]? = some u := by simpa using h1
    have hlt : t < vs.size := (Array.getElem?_eq_some_iff.1 hv).1
    rw [show args.getD t .und = args[t] by simp [List.getD, List.getElem?_eq_getElem ht]]
    rw [show (vs ++ Array.replicate m undef).getD t undef = u by
      rw [Array.getD_eq_getD_getElem?, Array.getElem?_append_left hlt, hv]; rfl]
    exact h2
  · rw [show args.getD t .und = .und by simp [List.getD, List.getElem?_eq_none (Nat.le_of_not_lt ht)]]
    exact .und _

theorem body_ok {run : Run} (hrun : RunOk P run) {f : FuncId} {args : List D} {h h' : List Ob} {d : D} (hb : body P run f args h = some (d, h')) (hr : HR c) (ag : Ag c h) (hfree : Free c h h') {vs : Array Value}
    (ha : RVs c args vs.toList) : FnOk P f ∧ Calls P f vs c.w fun e w' => ∃ v c', e = .returned v ∧ c'.w = w' ∧ Step c h c' h' ∧ RV c' d v := by
  unfold body at hb
  split at hb
  · cases hb
  · rename_i fn hf
    split at hb
    · cases hb
    · rename_i code hc
      split at hb
      · cases hb
      · rename_i hn
        have hsz : args.length = vs.size := by rw [ha.length, Array.length_toList]
        have key : ∀ (e : Ex) (st : St), run code ⟨argsσ args, h, max args.length fn.ntmps⟩ = some (e, st) → (e = .normal ∨ e = .ret) → (Vm.results P fn st).map (fun d => (d, st.h)) = some (d, h') →
            Calls P f vs c.w fun e w' => ∃ v c', e = .returned v ∧ c'.w = w' ∧ Step c h c' h' ∧ RV c' d v := by
          intro e st he hex hres
          simp only [Option.map_eq_some_iff, Prod.mk.injEq] at hres
          obtain ⟨d', hres, rfl, rfl⟩ := hres
          refine calls_of_wp hf hc (wp_mono (hrun _ _ _ _ he [] c { tmps := vs ++ Array.replicate (fn.ntmps - vs.size) undef, defers := [] } hr ⟨rfl, ?_, fun t => args_rv ha _ t, ag⟩ hfree) ?_)
          · simp; omega
          · rintro x a' w' ⟨rfl, c', rfl, hstep, hsr⟩
            obtain ⟨v, h1, h2⟩ := results_ok hstep.hr hsr hres
            rcases hex with rfl | rfl <;> exact ⟨hsr.1, v, h1, v, c', rfl, rfl, hstep, h2⟩
        refine ⟨⟨fn, hf, by simp [hc], by simpa using hn⟩, ?_⟩
        split at hb
        · rename_i st he; exact key _ st he (.inl rfl) hb
        · rename_i st he; exact key _ st he (.inr rfl) hb
        · cases hb

def cx0 (w : World) (L : Nat → Nat → Prop) : Cx := ⟨w.heap.size, L, fun _ => none, fun _ => none, w⟩
theorem hr0 (w : World) (L : Nat → Nat → Prop) : HR (cx0 w L) := ⟨Nat.le_refl _, by simp [cx0], by simp [cx0], by simp [cx0]⟩
theorem live0 {w : World} {L : Nat → Nat → Prop} (hL : ∀ b off, L b off → b < w.heap.size) (b off : Nat) : live (cx0 w L) b off ↔ L b off := by
  unfold live cx0
  simp only [reduceCtorEq, false_and, exists_false, or_false]
  exact ⟨fun h => h.2, fun h => ⟨hL b off h, h⟩⟩

theorem fnc_ok {run : Run} (hrun : RunOk P run) (hext : ExtOk P cfg) {f : FuncId} {args : List D} {r : D} (hf : fnc P cfg run f args = some r) {w : World} {L : Nat → Nat → Prop} (hL : ∀ b off, L b off → b < w.heap.size)
    {vs : Array Value} (ha : RCs w L args vs.toList) : FnOk P f ∧ Calls P f vs w fun e w' => ∃ v, e = .returned v ∧ Below w.heap.size w w' ∧ clean r = true ∧ RC w' L r v := by
  unfold fnc at hf
  split at hf
  · rename_i g hg
    obtain ⟨h1, h2⟩ := hext.ok f g hg
    exact ⟨h1, h2 args r hf w L vs hL ha⟩
  · split at hf
    · rename_i d h hb
      split at hf
      · rename_i r' hr'
        split at hf
        · rename_i hcl
          simp only [Option.some.injEq] at hf; subst hf
          have hargs : RVs (cx0 w L) args vs.toList := RCs.rv (c := cx0 w L) (ha.keep fun b off u h1 h2 => ⟨h1, fun h => h2 ((live0 hL b off).1 h)⟩)
          obtain ⟨h1, h2⟩ := body_ok hrun hb (hr0 w L) (fun id hid => by simp at hid) (fun id h1 h2 => ⟨rfl, rfl⟩) hargs
          refine ⟨h1, h2.mono ?_⟩
          rintro e w' ⟨v, c', rfl, rfl, hstep, hrv⟩
          refine ⟨v, rfl, hstep.bel, hcl, ?_⟩
          refine exp1_rc hstep.hr hstep.ag (fun b off hl hL' => hl (.inl ?_)) d hrv hr' hcl ?_
          · rw [hstep.ext.N0, hstep.ext.L0]; exact ⟨hL b off hL', hL'⟩
          · intro m _ b base o hm _ off _ hL'
            have h3 := hstep.hr.ge _ _ _ hm
            rw [hstep.ext.N0] at h3
            have := hL b off hL'
            have h4 : w.heap.size ≤ b := h3
            omega
        · cases hf
      · cases hf
    · cases hf

theorem callD_ok {run : Run} (hrun : RunOk P run) (hext : ExtOk P cfg) {f : FuncId} {args : List D} {h h' : List Ob} {d : D} (hb : callD P cfg run h f args = some (d, h')) (hr : HR c) (ag : Ag c h) (hfree : Free c h h')
    {vs : Array Value} (ha : RVs c args vs.toList) : FnOk P f ∧ Calls P f vs c.w fun e w' => ∃ v c', e = .returned v ∧ c'.w = w' ∧ Step c h c' h' ∧ RV c' d v := by
  unfold callD at hb
  split at hb
  · exact body_ok hrun hb hr ag hfree ha
  · split at hb
    · rename_i as has
      split at hb
      · rename_i hcl
        split at hb
        · rename_i r hfn
          by_cases hfl : flat r = true
          · -- nothing is shared
            rw [if_pos hfl] at hb
            simp only [Option.some.injEq, Prod.mk.injEq] at hb
            obtain ⟨rfl, rfl⟩ := hb
            have hrc := exps1_rc hr ag (L := fun _ _ => False) (fun _ _ _ h => h) args ha has hcl (fun _ _ _ _ _ _ _ _ _ h => h)
            obtain ⟨h1, h2⟩ := fnc_ok hrun hext hfn (L := fun _ _ => False) (by simp) hrc
            refine ⟨h1, h2.mono ?_⟩
            rintro e w' ⟨v, rfl, hbel, hcr, hrv⟩
            exact ⟨v, _, rfl, rfl, later_step hr ag hbel, .cl (flat_rc hrv hfl)⟩
          · rw [if_neg hfl] at hb
            split at hb
            · cases hb
            simp only [Option.some.injEq, Prod.mk.injEq] at hb
            obtain ⟨rfl, rfl⟩ := hb
            obtain ⟨c1, e1, e2, e3, e4, e5⟩ := frzAll_step (markss h args) hr ag (exps1_mapped hr ag args ha has)
            have hLs : ∀ b off, live c1 b off → b < c1.w.heap.size := by
              rintro b off (h | ⟨id, base, o, hm, _⟩)
              · exact Nat.lt_of_lt_of_le h.1 e2.hr.n0
              · exact e2.hr.lt hm
            have hrc : RCs c.w (live c1) as vs.toList := by
              refine exps1_rc hr ag (fun b off hl hl' => ?_) args ha has hcl ?_
              · -- what was not live is not
                rcases hl' with h | ⟨id, base, o, hm, ho, hle⟩
                · exact hl (.inl (by rw [e2.ext.N0, e2.ext.L0] at h; exact h))
                · rw [e3] at hm
                  obtain ⟨o0, _, _, k1, _⟩ := hr.ob _ _ _ hm
                  by_cases hid : id < h.length
                  · rw [ag id hid] at k1
                    obtain ⟨o1, g1, g2, g3⟩ := e5 id o0 k1
                    rw [e2.ag id (by rw [frzAll_len]; exact hid), g1] at ho
                    cases ho
                    refine hl (.inr ⟨id, base, o0, hm, (ag id hid).trans k1, ?_⟩)
                    have := Nat.mul_le_mul g3 (Nat.le_of_eq g2.symm)
                    omega
                  · have hout := e2.out id (by rw [frzAll_len]; omega)
                    rw [hout.1] at ho
                    exact hl (.inr ⟨id, base, o, hm, ho, hle⟩)
              · intro m hm b base o hmu ho off hoff hl'
                have hid : m.1 < h.length := (List.getElem?_eq_some_iff.1 ho).1
                obtain ⟨o1, g1, g2, g3⟩ := e4 m hm o ho
                rcases hl' with h | ⟨id, base', o', hm', ho', hle⟩
                · have := e2.hr.ge m.1 b base (by rw [e3]; exact hmu)
                  omega
                · rw [e3] at hm'
                  have : m.1 = id := hr.inj _ _ _ _ _ hmu hm'
                  subst this
                  rw [hmu] at hm'; cases hm'
                  rw [e2.ag m.1 (by rw [frzAll_len]; exact hid), g1] at ho'
                  cases ho'
                  have := Nat.mul_le_mul_right o.esz g3
                  rw [g2] at hle
                  omega
            rw [← e1] at hrc ⊢
            obtain ⟨h1, h2⟩ := fnc_ok hrun hext hfn hLs hrc
            refine ⟨h1, h2.mono ?_⟩
            rintro e w' ⟨v, rfl, hbel, hcr, hrv⟩
            exact ⟨v, _, rfl, rfl, e2.trans (later_step e2.hr e2.ag hbel), .cl hrv⟩
        · cases hb
      · cases hb
    · cases hb

theorem evo_rel {σ : Nat → D} {a : Act} (ht : ∀ t, RV c (σ t) (a.tmps.getD t undef)) {x : Option Operand} {d : Option D} (h : evo σ x = some d) : ORel c d (x.map a.eval) := by
  cases x with
  | none => simp only [evo, Option.some.injEq] at h; subst h; trivial
  | some x =>
    simp only [evo, Option.map_eq_some_iff] at h
    obtain ⟨d, h, rfl⟩ := h
    exact evs_rv ht h

theorem builtin_ok {h h' : List Ob} (hr : HR c) (ag : Ag c h) {b : Builtin} {ats : Array TypeId} {ty : TypeId} {cs : Array Bool} {args : List D} {vs : Array Value} {d : D} (ha : RVs c args vs.toList) (hfree : Free c h h')
    (hb : builtinD P h b ats ty args = some (d, h')) : ∃ v w', (builtin b ats ty cs vs).run P c.w = .ok (.value v) w' ∧ ∃ c', c'.w = w' ∧ Step c h c' h' ∧ RV c' d v := by
  have one : ∀ {x : D}, RVs c [x] vs.toList → ∃ v, vs = #[v] ∧ RV c x v := by
    intro x hx
    obtain ⟨l⟩ := vs
    cases hx with
    | cons h r => cases r; exact ⟨_, rfl, h⟩
  have two : ∀ {x y : D}, RVs c [x, y] vs.toList → ∃ v u, vs = #[v, u] ∧ RV c x v ∧ RV c y u := by
    intro x y hx
    obtain ⟨l⟩ := vs
    cases hx with
    | cons h r => cases r with | cons h2 r => cases r; exact ⟨_, _, rfl, h, h2⟩
  unfold builtinD at hb
  split at hb
  · rename_i x
    obtain ⟨v, rfl, hv⟩ := one ha
    split at hb
    · rename_i t ht
      split at hb
      · rename_i n e hu
        simp only [Option.some.injEq, Prod.mk.injEq] at hb
        obtain ⟨rfl, rfl⟩ := hb
        exact ⟨.int .i64 n, c.w, by simp [builtin, Builtin.len_, ht, run_und hu, goInt], c, rfl, .refl hr ag, .cl (.int _ _)⟩
      · rename_i e hu
        simp only [Option.map_eq_some_iff, Prod.mk.injEq] at hb
        obtain ⟨n, hn, rfl, rfl⟩ := hb
        obtain ⟨a, cap, rfl⟩ := lenS_val hv hn
        exact ⟨.int .i64 n, c.w, by simp [builtin, Builtin.len_, ht, run_und hu, goInt], c, rfl, .refl hr ag, .cl (.int _ _)⟩
      · rename_i s hu
        simp only [Option.some.injEq, Prod.mk.injEq] at hb
        obtain ⟨rfl, rfl⟩ := hb
        obtain rfl := hv.str
        exact ⟨.int .i64 s.size, c.w, by simp [builtin, Builtin.len_, ht, run_und hu, goInt], c, rfl, .refl hr ag, .cl (.int _ _)⟩
      · cases hb
    · cases hb
  · rename_i s x
    obtain ⟨v, u, rfl, hv, hu⟩ := two ha
    obtain ⟨r, w', h1, h2⟩ := run_appendD (ty := ty) hr ag hv hu hfree hb
    exact ⟨r, w', by simp [builtin, h1], h2⟩
  · rename_i s x
    obtain ⟨v, u, rfl, hv, hu⟩ := two ha
    obtain ⟨r, w', h1, h2⟩ := run_copyD (ty := ty) hr ag hv hu hb
    exact ⟨r, w', by simp [builtin, h1], h2⟩
  · rename_i k x k' y
    simp only [Option.some.injEq, Prod.mk.injEq] at hb
    obtain ⟨rfl, rfl⟩ := hb
    obtain ⟨v, u, rfl, hv, hu⟩ := two ha
    obtain rfl := hv.int; obtain rfl := hu.int
    exact ⟨_, c.w, by simp [builtin, Builtin.min_, Builtin.min2], c, rfl, .refl hr ag, .cl (.int _ _)⟩
  · rename_i k x k' y
    simp only [Option.some.injEq, Prod.mk.injEq] at hb
    obtain ⟨rfl, rfl⟩ := hb
    obtain ⟨v, u, rfl, hv, hu⟩ := two ha
    obtain rfl := hv.int; obtain rfl := hu.int
    exact ⟨_, c.w, by simp [builtin, Builtin.max_, Builtin.max2], c, rfl, .refl hr ag, .cl (.int _ _)⟩
  · rename_i x
    obtain ⟨v, rfl, hv⟩ := one ha
    split at hb
    · rename_i v' hs
      obtain rfl := hv.scal hs
      simp only [Option.map_eq_some_iff, Prod.mk.injEq] at hb
      obtain ⟨r, hb, rfl, rfl⟩ := hb
      obtain ⟨u, h1, h2⟩ := run_pure1 (c := c) hb
      exact ⟨u, c.w, by simp [builtin, h1], c, rfl, .refl hr ag, h2⟩
    · cases hb
  · rename_i x
    obtain ⟨v, rfl, hv⟩ := one ha
    split at hb
    · rename_i v' hs
      obtain rfl := hv.scal hs
      simp only [Option.map_eq_some_iff, Prod.mk.injEq] at hb
      obtain ⟨r, hb, rfl, rfl⟩ := hb
      obtain ⟨u, h1, h2⟩ := run_pure1 (c := c) hb
      exact ⟨u, c.w, by simp [builtin, h1], c, rfl, .refl hr ag, h2⟩
    · cases hb
  · rename_i x y
    obtain ⟨v, u, rfl, hv, hu⟩ := two ha
    split at hb
    · rename_i v' u' hs hs'
      obtain rfl := hv.scal hs
      obtain rfl := hu.scal hs'
      simp only [Option.map_eq_some_iff, Prod.mk.injEq] at hb
      obtain ⟨r, hb, rfl, rfl⟩ := hb
      obtain ⟨u, h1, h2⟩ := run_pure1 (c := c) hb
      exact ⟨u, c.w, by simp [builtin, h1], c, rfl, .refl hr ag, h2⟩
    · cases hb
  · cases hb

theorem fenced_arr {P : Program} {t : TypeId} (h : (match P.underlying t with | some (.array ..) => true | _ => false) = false) : ∀ n e, P.underlying t ≠ some (.array n e) := by
  intro n e h2; rw [h2] at h; cases h

theorem bytes_eq : ∀ {xs : List D} {ns : List Int}, bytesD xs = some ns → xs = ns.map (D.int .u8)
  | [], ns, h => by simp only [bytesD, Option.some.injEq] at h; subst h; rfl
  | x :: xs, ns, h => by
    unfold bytesD at h
    split at h
    · rename_i h0; cases h0
    · rename_i n ds h0
      cases h0
      simp only [Option.map_eq_some_iff] at h
      obtain ⟨ns', h, rfl⟩ := h
      rw [bytes_eq h]; rfl
    · cases h
theorem run_b2s {P : Program} {s t : TypeId} {p d : D} {v : Value} (hp : RV c p v) (h : b2sD P s t p = some d) : ∃ r, (convert s t v).run P c.w = .ok r c.w ∧ RV c d r := by
  unfold b2sD at h
  split at h
  · rename_i xs tg
    split at h
    · rename_i e he hu
      split at h
      · rename_i hk
        simp only [Option.map_eq_some_iff] at h
        obtain ⟨ns, hb, rfl⟩ := h
        obtain ⟨_, b, off, cap, a, rfl, hrow, hcap, _, ha⟩ := hp.sl'
        obtain rfl := bytes_eq hb
        refine ⟨_, ?_, .cl (.str _)⟩
        rw [run_convert_bytes_string c.w s t e _ _ _ (elemT_und he) hk hu]
        refine run_bytesToString c.w a _ cap ns ?_
        rw [List.length_map, ← List.length_map (f := Value.int .u8)]
        refine run_loadCells_list c.w a _ fun j v hv => ?_
        have hj : j < ns.length := by have := (List.getElem?_eq_some_iff.1 hv).1; simpa using this
        have hx : (ns.map (D.int .u8))[j]? = some (.int .u8 ns[j]) := by simp [hj]
        obtain ⟨k1, k2, k3⟩ := hrow.get hx
        obtain ⟨_, u, k4, _, k5⟩ := k3.get (j := 0) (x := .int .u8 ns[j]) (by simp [D.cells])
        have hu2 := (RV.cl (c := c) k5).int
        simp only [List.length_map] at hcap
        rw [ha (by omega), add_addr]
        simp only [List.getElem?_map, List.getElem?_eq_getElem hj, Option.map_some, Option.some.injEq] at hv
        rw [← hv, ← hu2]
        simpa using k4
      · cases h
    · cases h
  · cases h
/-- one operation -/
theorem opD_ok {run : Run} (hrun : RunOk P run) (hext : ExtOk P cfg) {o : Oper} {st : St} {a : Act} {d : D} {h' : List Ob} (hr : HR c) (hs : SR ds c st a) (hfree : Free c st.h h') (hop : opD P cfg run o st = some (d, h'))
    {Q : Exit → Act → World → Prop} : o.wp P a c.w (fun a' w' => ∃ v c', a' = a.put o.dst v ∧ c'.w = w' ∧ Step c st.h c' h' ∧ RV c' d v) Q := by
  obtain ⟨hd, hn, ht, ag⟩ := hs
  -- an operation that leaves memory as it is
  have still : ∀ {v : Value}, h' = st.h → (execOp a.eval o).run P c.w = .ok (.value v) c.w → RV c d v →
      o.wp P a c.w (fun a' w' => ∃ v c', a' = a.put o.dst v ∧ c'.w = w' ∧ Step c st.h c' h' ∧ RV c' d v) Q := by
    intro v e h1 h2
    unfold Oper.wp
    rw [h1, Oper.upon_value, e]
    exact ⟨v, c, rfl, rfl, .refl hr ag, h2⟩
  have goes : ∀ {v : Value} {w' : World} {c' : Cx}, (execOp a.eval o).run P c.w = .ok (.value v) w' → c'.w = w' → Step c st.h c' h' → RV c' d v →
      o.wp P a c.w (fun a' w' => ∃ v c', a' = a.put o.dst v ∧ c'.w = w' ∧ Step c st.h c' h' ∧ RV c' d v) Q := by
    intro v w' c' h1 h2 h3 h4
    unfold Oper.wp
    rw [h1, Oper.upon_value]
    exact ⟨v, c', rfl, h2, h3, h4⟩
  unfold opD at hop
  simp only at hop
  split at hop
  · rename_i x ho
    simp only [Option.map_eq_some_iff, Prod.mk.injEq] at hop
    obtain ⟨d', h1, rfl, rfl⟩ := hop
    exact still rfl (by simp [execOp, ho]) (evs_rv ht h1)
  · rename_i x ho
    simp only [Option.map_eq_some_iff, Prod.mk.injEq] at hop
    obtain ⟨d', h1, rfl, rfl⟩ := hop
    exact still rfl (by simp [execOp, ho]) (evs_rv ht h1)
  · rename_i x y z ho
    split at hop
    · rename_i hx
      simp only [Option.map_eq_some_iff, Prod.mk.injEq] at hop
      obtain ⟨d', h1, rfl, rfl⟩ := hop
      have := (evs_rv ht hx).bool
      exact still rfl (by simp [execOp, ho, this, asBool]) (evs_rv ht h1)
    · rename_i hx
      simp only [Option.map_eq_some_iff, Prod.mk.injEq] at hop
      obtain ⟨d', h1, rfl, rfl⟩ := hop
      have := (evs_rv ht hx).bool
      exact still rfl (by simp [execOp, ho, this, asBool]) (evs_rv ht h1)
    · cases hop
  · rename_i t ho
    split at hop
    · rename_i z s hz hsz
      split at hop
      · rename_i hc
        simp only [Option.some.injEq, Prod.mk.injEq] at hop
        obtain ⟨rfl, rfl⟩ := hop
        obtain ⟨zv, h1, h2⟩ := run_zero (w := c.w) hz
        obtain ⟨v, w', h3, c', h4, h5, h6⟩ := run_newVar (P := P) hr ag (RV.cl (ofVal_rc h2)) hc.1 hsz hc.2 hfree
        exact goes (v := .pointer (some v)) (by simp [execOp, ho, Instr.alloc, h1, h3]) h4 h5 h6
      · cases hop
    · cases hop
  · rename_i t x ho
    split at hop
    · rename_i z s hz hsz
      split at hop
      · rename_i hc
        simp only [Option.some.injEq, Prod.mk.injEq] at hop
        obtain ⟨rfl, rfl⟩ := hop
        obtain ⟨v, w', h3, c', h4, h5, h6⟩ := run_newVar (P := P) hr ag (evs_rv ht hz) hc.1 hsz hc.2 hfree
        exact goes (v := .pointer (some v)) (by simp [execOp, ho, Instr.box, h3]) h4 h5 h6
      · cases hop
    · cases hop
  · rename_i t ps ho
    split at hop
    · rename_i ds hds
      simp only [Option.map_eq_some_iff, Prod.mk.injEq] at hop
      obtain ⟨d', h1, rfl, rfl⟩ := hop
      obtain ⟨u, h2, h3⟩ := run_buildD ht hds h1
      exact still rfl (by simp only [execOp, ho]; simp [h2]) h3
    · cases hop
  · rename_i t n ps ho
    split at hop
    · rename_i ds e hds he
      split at hop
      · rename_i s g z hsz hg hz
        split at hop
        · rename_i hc
          split at hop
          · simp only [Option.bind_eq_some_iff] at hop
            obtain ⟨els, h1, hop⟩ := hop
            split at hop
            · rename_i hcl
              simp only [Option.some.injEq, Prod.mk.injEq] at hop
              obtain ⟨rfl, rfl⟩ := hop
              obtain ⟨v, w', h3, c', h4, h5, h6⟩ := run_litD hr ag ht hds he hsz hz hc.1 hc.2.1 hc.2.2 h1 hcl
              exact goes (by simp only [execOp, ho]; simp [h3]) h4 h5 h6
            · cases hop
          · simp only [Option.map_eq_some_iff, Prod.mk.injEq] at hop
            obtain ⟨els, h1, rfl, rfl⟩ := hop
            obtain ⟨v, w', h3, c', h4, h5, h6⟩ := run_buildSliceD hr ag ht hds he hsz hz hc.1 hc.2.1 hc.2.2 h1 hfree
            exact goes (by simp only [execOp, ho]; simp [h3]) h4 h5 h6
        · cases hop
      · cases hop
    · cases hop
  · rename_i t x ho
    split at hop
    · rename_i p hp
      simp only [Option.map_eq_some_iff, Prod.mk.injEq] at hop
      obtain ⟨d', h1, rfl, rfl⟩ := hop
      obtain ⟨u, h2, h3⟩ := run_load hr ag (evs_rv ht hp) h1
      exact still rfl (by simp [execOp, ho, h2]) h3
    · cases hop
  · rename_i t x y ho
    split at hop
    · rename_i p v hp hv
      simp only [Option.map_eq_some_iff, Prod.mk.injEq] at hop
      obtain ⟨d', h1, rfl, rfl⟩ := hop
      obtain ⟨w', h2, c', h3, h4⟩ := run_store hr ag (evs_rv ht hp) (evs_rv ht hv) h1
      unfold Oper.wp
      rw [show (execOp a.eval o).run P c.w = .ok .skip w' by simp [execOp, ho, h2], Oper.upon_skip]
      exact ⟨undef, c', rfl, h3, h4, .und _⟩
    · cases hop
  · rename_i x ho
    split at hop
    · rename_i id ver i j hx
      simp only [Option.some.injEq, Prod.mk.injEq] at hop
      obtain ⟨rfl, rfl⟩ := hop
      have hv := evs_rv ht hx
      obtain ⟨ad, he⟩ := hv.ptrS
      rw [he] at hv
      exact still rfl (by simp [execOp, ho, he]) hv
    · rename_i z xs i j hx
      simp only [Option.some.injEq, Prod.mk.injEq] at hop
      obtain ⟨rfl, rfl⟩ := hop
      have hv := evs_rv ht hx
      obtain ⟨_, b, off, he, _⟩ := hv.fptr'
      rw [he] at hv
      exact still rfl (by simp [execOp, ho, he]) hv
    · cases hop
  · rename_i op t x y yt ho
    split at hop
    · rename_i p q hp hq
      simp only [Option.map_eq_some_iff, Prod.mk.injEq] at hop
      obtain ⟨d', h1, rfl, rfl⟩ := hop
      obtain ⟨r, h2, h3⟩ := run_bin (evs_rv ht hp) (evs_rv ht hq) h1
      refine still rfl (v := r) ?_ h3
      simp only [execOp, ho]
      rw [Sem.run_bind, h2]; rfl
    · cases hop
  · rename_i op t x ho
    split at hop
    · rename_i p hp
      split at hop
      · rename_i v hv
        simp only [Option.map_eq_some_iff, Prod.mk.injEq] at hop
        obtain ⟨d', h1, rfl, rfl⟩ := hop
        obtain ⟨r, h2, h3⟩ := run_pure1 (c := c) h1
        have := (evs_rv ht hp).scal hv
        exact still rfl (v := r) (by simp [execOp, ho, this, h2]) h3
      · cases hop
    · cases hop
  · rename_i s t x ho
    split at hop
    · rename_i p hp
      split at hop
      · rename_i v hv
        simp only [Option.map_eq_some_iff, Prod.mk.injEq] at hop
        obtain ⟨d', h1, rfl, rfl⟩ := hop
        obtain ⟨r, h2, h3⟩ := run_pure1 (c := c) h1
        have := (evs_rv ht hp).scal hv
        exact still rfl (v := r) (by simp [execOp, ho, this, h2]) h3
      · simp only [Option.map_eq_some_iff, Prod.mk.injEq] at hop
        obtain ⟨d', h1, rfl, rfl⟩ := hop
        obtain ⟨r, h2, h3⟩ := run_b2s (c := c) (evs_rv ht hp) h1
        exact still rfl (v := r) (by simp [execOp, ho, h2]) h3
    · cases hop
  · rename_i t x ho
    split at hop
    · rename_i p u hp hu
      split at hop
      · cases hop
      · rename_i hni
        simp only [Option.some.injEq, Prod.mk.injEq] at hop
        obtain ⟨rfl, rfl⟩ := hop
        refine still rfl (v := .iface t (a.eval x)) ?_ (.ifc (evs_rv ht hp))
        simp only [execOp, ho, Instr.makeInterface, Sem.run_bind, run_und hu, Result.andThen_ok]
        cases u <;> first | exact absurd rfl (hni _) | rfl
    · cases hop
  · rename_i f xs ys ho
    split at hop
    · rename_i as bs h1 h2
      simp only [Option.some.injEq, Prod.mk.injEq] at hop
      obtain ⟨rfl, rfl⟩ := hop
      exact still rfl (v := .func f (xs.map a.eval) (ys.map a.eval)) (by simp [execOp, ho, Instr.makeFunc]) (.clo (by simpa using evsl_rv ht h1) (by simpa using evsl_rv ht h2))
    · cases hop
  · rename_i t l q ho
    split at hop
    · rename_i p q' hp hq
      obtain ⟨v, w', h1, c', h2, h3, h4⟩ := run_makeSliceD hr ag (evs_rv ht hp) (evs_rv ht hq) hfree hop
      exact goes (v := v) (by simp [execOp, ho, h1]) h2 h3 h4
    · cases hop
  · rename_i t x lo hi mx ho
    split at hop
    · rename_i p l1 l2 l3 hp h1 h2 h3
      by_cases har : ∃ n e, P.underlying t = some (.array n e)
      · obtain ⟨n, e, hu⟩ := har
        obtain ⟨u, h4, c', h5, h6, h7⟩ := run_sliceArr hr ag hu (evs_rv ht hp) (evo_rel ht h1) (evo_rel ht h2) (evo_rel ht h3) hop
        exact goes (v := u) (by simp [execOp, ho, h4]) h5 h6 h7
      · obtain ⟨rfl, u, h4, h5⟩ := run_slice (evs_rv ht hp) (evo_rel ht h1) (evo_rel ht h2) (evo_rel ht h3) (fun n e h => har ⟨n, e, h⟩) hop
        exact still rfl (v := u) (by simp [execOp, ho, h4]) h5
    · cases hop
  · rename_i t x f ho
    split at hop
    · rename_i p hp
      simp only [Option.map_eq_some_iff, Prod.mk.injEq] at hop
      obtain ⟨d', h1, rfl, rfl⟩ := hop
      obtain ⟨u, h2, h3⟩ := run_fieldAddr (evs_rv ht hp) h1
      exact still rfl (v := u) (by simp [execOp, ho, h2]) h3
    · cases hop
  · rename_i t x f ho
    split at hop
    · rename_i p hp
      simp only [Option.map_eq_some_iff, Prod.mk.injEq] at hop
      obtain ⟨d', h1, rfl, rfl⟩ := hop
      obtain ⟨u, h2, h3⟩ := run_field (evs_rv ht hp) h1
      exact still rfl (v := u) (by simp [execOp, ho, h2]) h3
    · cases hop
  · rename_i t x i ho
    split at hop
    · rename_i p q hp hq
      simp only [Option.map_eq_some_iff, Prod.mk.injEq] at hop
      obtain ⟨d', h1, rfl, rfl⟩ := hop
      obtain ⟨u, h2, h3⟩ := run_indexAddr (evs_rv ht hp) (evs_rv ht hq) h1
      exact still rfl (v := u) (by simp [execOp, ho, h2]) h3
    · cases hop
  · rename_i t x i ho
    split at hop
    · rename_i p q hp hq
      simp only [Option.map_eq_some_iff, Prod.mk.injEq] at hop
      obtain ⟨d', h1, rfl, rfl⟩ := hop
      obtain ⟨u, h2, h3⟩ := run_index (evs_rv ht hp) (evs_rv ht hq) h1
      exact still rfl (v := u) (by simp [execOp, ho, h2]) h3
    · cases hop
  · rename_i x i ho
    split at hop
    · rename_i ds hp
      split at hop
      · rename_i d' h1
        simp only [Option.some.injEq, Prod.mk.injEq] at hop
        obtain ⟨rfl, rfl⟩ := hop
        obtain ⟨u, h2, h3⟩ := run_extract (P := P) (evs_rv ht hp) h1
        exact still rfl (v := u) (by simp [execOp, ho, h2]) h3
      · cases hop
    · cases hop
  · rename_i cl ho
    split at hop
    · rename_i b args hcal hargs
      have hrv := evsl_rv ht hargs
      obtain ⟨v, w', h1, c', h2, h3, h4⟩ := builtin_ok (cs := cl.args.map fun | .const _ => true | _ => false) hr ag (vs := cl.args.map a.eval) (by simpa using hrv) hfree hop
      refine goes (v := v) ?_ h2 h3 h4
      simp only [execOp, ho, resolve, hcal, Sem.run_bind, Sem.run_pure, Result.andThen_ok, invoke]
      exact h1
    · rename_i f args hcal hargs
      split at hop
      · rename_i g first captured hf
        have hrv := evsl_rv ht hargs
        obtain ⟨vf, vc, hfe, hvf, hvc⟩ := (evs_rv ht hf).clo'
        obtain ⟨⟨fn, hfn, hb, hnm⟩, h2⟩ := callD_ok hrun hext hop hr ag hfree (vs := vf ++ cl.args.map a.eval ++ vc) (by
          simp only [Array.toList_append, Array.toList_map]
          exact (hvf.append hrv).append hvc)
        have hnm' : fn.name ≠ "runtime.NumGoroutine" := by simpa using hnm
        have hb' : fn.body ≠ none := by intro h; rw [h] at hb; cases hb
        unfold Oper.wp
        rw [show (execOp a.eval o).run P c.w = .ok (.enter g (vf ++ cl.args.map a.eval ++ vc)) c.w by
          simp [execOp, ho, resolve, hcal, hfe, Deferred.ofValue, invoke, callFunc, hfn, hb', hnm']]
        refine h2.mono ?_
        rintro e w' ⟨v, c', rfl, h3, h4, h5⟩
        exact ⟨v, c', rfl, h3, h4, h5⟩
      · cases hop
    · cases hop
  · cases hop
end
end Go.Proofs.YtlpadffinfijgaaW.Vm
