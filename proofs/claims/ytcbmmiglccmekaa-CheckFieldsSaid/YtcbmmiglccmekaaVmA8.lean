/- The program's walk through a function's places. No conditions. -/
import Derived.Test.YtcbmmiglccmekaaVmA7
import Derived.KernelRfl
set_option linter.unusedVariables false
set_option linter.unusedSimpArgs false
namespace Go.Proofs.YtcbmmiglccmekaaW.Rg
open Go.Proofs.YtcbmmiglccmekaaW.Vm Go.Proofs.YtcbmmiglccmekaaW.Md
open Go Go.Proofs
/-- jumps go to places that there are -/
def Jumps (c : List Instr) : Prop := ∀ x ∈ c, (x.op = 10 ∨ x.op = 11) → x.a < c.length
theorem next_le {c : List Instr} (hj : Jumps c) {at_ : Nat} {x : Instr} (hx : c[at_]? = some x) (ha : 0 ≤ x.a) : ∀ t ∈ nextP x at_, t ≤ c.length := by
  have hat := get_some_lt hx
  have hm := hj x (List.mem_of_getElem? hx)
  intro t ht
  unfold nextP at ht
  split at ht
  · rename_i h; have := hm (.inl h); simp at ht; omega
  · split at ht
    · simp at ht
    · split at ht
      · rename_i h; have := hm (.inr h)
        simp at ht
        rcases ht with rfl | rfl <;> omega
      · simp at ht; omega
theorem Ck.setC {H p f ck di ni ds dn pl} (h : Ck H p f ck di ni ds dn pl) (pl' : Int) : Ck (H.set ck ⟨0, 8, [encC p f di ni f.c.length pl'], 0⟩) p f ck di ni ds dn pl' :=
  ⟨by rw [List.getElem?_set_self (get_some_lt h.c)], by rw [List.getElem?_set_ne h.n1, h.d], by rw [List.getElem?_set_ne h.n2, h.b], h.n1, h.n2, h.n3⟩
theorem Ck.setD {H p f ck di ni ds dn pl} (h : Ck H p f ck di ni ds dn pl) (ds' : List Int) : Ck (H.set di ⟨0, 1, ds'.map I, 0⟩) p f ck di ni ds' dn pl :=
  ⟨by rw [List.getElem?_set_ne h.n1.symm, h.c], by rw [List.getElem?_set_self (get_some_lt h.d)], by rw [List.getElem?_set_ne h.n3, h.b], h.n1, h.n2, h.n3⟩
theorem Ck.setB {H p f ck di ni ds dn pl} (h : Ck H p f ck di ni ds dn pl) (dn' : List Bool) : Ck (H.set ni ⟨0, 1, dn'.map D.bool, 0⟩) p f ck di ni ds dn' pl :=
  ⟨by rw [List.getElem?_set_ne h.n2.symm, h.c], by rw [List.getElem?_set_ne h.n3.symm, h.d], by rw [List.getElem?_set_self (get_some_lt h.b)], h.n1, h.n2, h.n3⟩
theorem clay_loop (p : Option (List Fu)) (f : Fu) (h200 : f.c.length ≤ 200) (ck di ni : Nat) (dn : List Bool) (pl : Int) (l : Option (List Int)) (b : Int) (hb : 0 ≤ b ∧ b ≤ 16) (hl2 : (l.getD []).length ≤ 2) {X : Type} (K : Ex × St → Option X) (Q : Option X → Prop) : ∀ (ts : List Nat) (j : Nat) (ds : List Int) (H : List Ob) (σ : Nat → D), (l.getD []).drop j = ts.map (fun (t : Nat) => (t : Int)) → (∀ t ∈ ts, t ≤ f.c.length) → Ck H p f ck di ni ds dn pl → ds.length = f.c.length →
    σ 0 = .ptr ck 0 0 0 → σ 6 = I b → σ 67 = encL 1 I l → σ 68 = I (l.getD []).length → σ 69 = I j →
    (∀ σ' H' ds' e, lay f.c.length b ts ds = .inl e → Ck H' p f ck di ni ds' dn pl → σ' 2 = I e → Q (K (.ret, ⟨σ', H', 109⟩))) →
    (∀ σ' H' ds', lay f.c.length b ts ds = .inr ds' → Ck H' p f ck di ni ds' dn pl → σ' 0 = .ptr ck 0 0 0 → Q (K (.exit 0, ⟨σ', H', 109⟩))) →
    Q ((W Try.prog cfg (.loop (loopAt Try.f28 11)) ⟨σ, H, 109⟩).bind K) := by
  intro ts
  induction ts with
  | nil =>
    intro j ds H σ hd ht hk hl s0 s6 s67 s68 s69 hr1 he
    have hj : ¬ (j < (l.getD []).length) := by have := congrArg List.length hd; simp at this; omega
    rw [Wloop]
    conv => arg 1; arg 1; arg 1; simp [loopAt, loopIn, headId, Try.f28, s68, s69, hj]
    exact he _ H ds rfl hk (by simp [s0])
  | cons t ts ih =>
    intro j ds H σ hd ht hk hl s0 s6 s67 s68 s69 hr1 he
    rw [List.map_cons] at hd
    obtain ⟨hg1, hd1, hj⟩ := drop_get hd
    have hlt : decide (j < (l.getD []).length) = true := dt hj
    have hx := idxD_nat .i64 hj
    have hw : IntKind.i64.wrap ((j : Int) + 1) = ((j + 1 : Nat) : Int) := wr (by omega) (by omega)
    have hcl : (f.code.getD []).length = f.c.length := rfl
    have htl := ht t (by simp)
    have kc := hk.c; have kd := hk.d
    unfold lay at hr1 he
    by_cases c1 : t = f.c.length
    · rw [if_pos (by omega)] at hr1
      have d1 : decide (t = f.c.length) = true := dt c1
      have d1' : decide ((t : Int) = f.c.length) = true := dt (by omega)
      rw [Wloop]
      conv => arg 1; arg 1; arg 1; simp [loopAt, loopIn, headId, Try.f28, s0, s6, s67, s68, s69, hlt, hx, hg1, kc, op_nilp, hcl, d1, d1']
      exact hr1 _ H ds _ rfl hk (by simp)
    · have d1 : decide (t = f.c.length) = false := df c1
      have d1' : decide ((t : Int) = f.c.length) = false := df (by omega)
      have htn : t < f.c.length := by omega
      rw [if_neg (by omega)] at hr1 he
      have hx2 := idxD_nat .i64 htn
      have hgt : ds[t]? = some ds[t] := List.getElem?_eq_getElem (by omega)
      have e1 : ds.getD t (-1) = ds[t] := by simp [List.getD_eq_getElem?_getD, hgt]
      rw [e1] at hr1 he
      generalize ds[t] = d at *
      cases c2 : decide (d = -1)
      · rw [if_neg (of_decide_eq_false c2)] at hr1 he
        cases c3 : decide (d = b)
        · rw [if_pos (of_decide_eq_false c3)] at hr1
          rw [Wloop]
          conv => arg 1; arg 1; arg 1; simp [loopAt, loopIn, headId, Try.f28, s0, s6, s67, s68, s69, hlt, hx, hg1, kc, kd, op_nilp, hcl, d1, d1', hx2, hgt, c2, c3]
          exact hr1 _ H ds _ rfl hk (by simp)
        · rw [if_neg (by simpa using of_decide_eq_true c3)] at hr1 he
          rw [Wloop]
          conv => arg 1; arg 1; arg 1; simp [loopAt, loopIn, headId, Try.f28, s0, s6, s67, s68, s69, hlt, hx, hg1, kc, kd, op_nilp, hcl, d1, d1', hx2, hgt, c2, c3, hw]
          rw [Option.bind_some, loopK_normal]
          exact ih (j + 1) ds H _ hd1 (fun t h => ht t (by simp [h])) hk hl (by simp [s0]) (by simp [s6]) (by simp [s67]) (by simp [s68]) (by simp) hr1 he
      · rw [if_pos (of_decide_eq_true c2)] at hr1 he
        rw [Wloop]
        conv => arg 1; arg 1; arg 1; simp [loopAt, loopIn, headId, Try.f28, s0, s6, s67, s68, s69, hlt, hx, hg1, kc, kd, op_nilp, hcl, d1, d1', hx2, hgt, c2, hw]
        rw [Option.bind_some, loopK_normal, ← List.map_set (f := I)]
        exact ih (j + 1) (ds.set t b) _ _ hd1 (fun t h => ht t (by simp [h])) (hk.setD _) (by simpa using hl) (by simp [s0]) (by simp [s6]) (by simp [s67]) (by simp [s68]) (by simp) hr1 he
def seq1 : Code → Code
  | .seq a _ => a
  | c => c
def seq2 : Code → Code
  | .seq _ b => b
  | c => c
theorem hfl : findLabel (scopeAt Try.f28) 0 = some (restAt Try.f28 0) := by kernel_rfl
theorem cmain_loop (p : Option (List Fu)) (f : Fu) (hs : Safe (p.getD []) f.c) (hj : Jumps f.c) (ck di ni : Nat) {X : Type} (K : Ex × St → Option X) (Q : Option X → Prop) : ∀ (k : Nat) (ds : List Int) (dn : List Bool) (pl : Int) (H : List Ob) (σ : Nat → D), Inv (shapes (p.getD []) f.c) ds dn → (dn.filter (!·)).length < k → Ck H p f ck di ni ds dn pl →
    σ 0 = .ptr ck 0 0 0 →
    (∀ σ' H' ds' dn' a e, reachN (shapes (p.getD []) f.c) k ds dn = .inl (a, e) → Ck H' p f ck di ni ds' dn' a → σ' 2 = I e → Q (K (.ret, ⟨σ', H', 109⟩))) →
    (∀ σ' H' ds' dn' a, reachN (shapes (p.getD []) f.c) k ds dn = .inr ds' → ds'.length = f.c.length → Ck H' p f ck di ni ds' dn' a → σ' 2 = I 0 → Q (K (.ret, ⟨σ', H', 109⟩))) →
    Q ((SC Try.prog cfg (scopeAt Try.f28) (restAt Try.f28 0) ⟨σ, H, 109⟩).bind K) := by
  intro k
  induction k with
  | zero => intro ds dn pl H σ I0 hk; omega
  | succ k ih =>
    intro ds dn pl H σ I0 hk hC s0 hr1 he
    have hsl := shapes_len (p.getD []) f.c
    have hdl : ds.length = f.c.length := by rw [I0.len, hsl]
    have hdn : dn.length = f.c.length := by rw [I0.dlen, hsl]
    have h200 := hs.len
    have hL := cleast_spec hC hdl hdn h200
    have kc := hC.c; have kd := hC.d; have kb := hC.b
    have lc := get_some_lt kc; have ld := get_some_lt kd; have lb := get_some_lt kb
    unfold reachN at hr1 he
    unfold leastI at hL
    cases hle : least ds dn with
    | none =>
      rw [hle] at hL hr1 he
      rw [SC_eq]
      conv => arg 1; arg 1; arg 1; simp [restAt, scopeAt, scopeIn, findLabel, Try.f28, s0, hL]
      exact he _ H ds dn pl rfl hdl hC (by simp)
    | some at_ =>
      rw [hle] at hL hr1 he
      obtain ⟨_, ha2, ha3, ha4⟩ := leastF_some hle
      have hat : at_ < f.c.length := by omega
      have hg : f.c[at_]? = some f.c[at_] := List.getElem?_eq_getElem (by omega)
      have hxm : f.c[at_] ∈ f.c := List.getElem_mem _
      have hx := idxD_nat .i64 hat
      have hx' : idxD (f.code.getD []).length (D.int .i64 (at_ : Int)) = some at_ := idxD_nat .i64 (by show at_ < f.c.length; omega)
      have hgd : ds[at_]? = some ds[at_] := List.getElem?_eq_getElem (by omega)
      have e1 : ds.getD at_ (-1) = ds[at_] := by simp [List.getD_eq_getElem?_getD, hgd]
      have hgn : dn[at_]? = some dn[at_] := List.getElem?_eq_getElem (by omega)
      have hrg := I0.rng at_
      rw [e1] at hrg ha3
      have hsh : (shapes (p.getD []) f.c)[at_]? = some ⟨offP (p.getD []) f.c[at_], on6 f.c[at_].op, nextP f.c[at_] at_⟩ := by rw [shapes_get, hg]; rfl
      simp only [hsh, e1, hsl] at hr1 he
      have hg' : (f.code.getD [])[at_]? = some f.c[at_] := hg
      have hnP := nextO_P f.c[at_] at_ (hs.a hxm).2.2.1
      have hnl : ((nextO f.c[at_] at_).getD []).length ≤ 2 := by rcases nx_len f.c[at_] at_ with h | h; rw [h]; simp; exact h
      have hnx := next_le hj hg (hs.a hxm).2.2.1
      have hof := hs.off hxm
      have hon := on6_le f.c[at_].op
      -- the place and the mark are laid
      have C1 := hC.setC at_
      have C2 := C1.setB (dn.set at_ true)
      rw [List.map_set] at C2
      have kb1 := C1.b
      have kc2 := C2.c; have kd2 := C2.d
      have hSt := cstack_spec p f hs f.c[at_] hxm C2.c
      have C3 := C2.app [⟨0, 3, [encInstr f.c[at_]], 0⟩]
      have kc3 := C3.c; have kd3 := C3.d
      have hNx := cnext_spec p f at_ f.c[at_] hg h200 C3.c
      have C4 := C3.app [⟨0, 3, [encInstr f.c[at_]], 0⟩]
      have Istep := fun r => I0.step (r := r) (shapes_on (p.getD []) f.c) hle hsh
      simp only [e1, hsl] at Istep
      generalize hy : f.c[at_] = y at *
      generalize hz : ds[at_] = d at *
      generalize on6 y.op = no at *
      generalize offP (p.getD []) y = o at *
      have hneg : decide ((at_ : Int) < 0) = false := df (by omega)
      have w1 : IntKind.i64.wrap (d - o) = d - o := wr (by omega) (by omega)
      have w2 : IntKind.i64.wrap (d - o + no) = d - o + no := wr (by omega) (by omega)
      generalize hH2 : (H.set ck ⟨0, 8, [encC p f di ni f.c.length at_], 0⟩).set ni ⟨0, 1, (dn.map D.bool).set at_ (.bool true), 0⟩ = H2 at *
      have hH2' : (H.set ck ⟨0, 8, [.agg [encL 4 encFunc p, I f.arity, I f.locals, I f.slots, encL 3 encInstr f.code, .own 1 di 0 0 f.c.length, .own 1 ni 0 0 f.c.length, I at_]], 0⟩).set ni ⟨0, 1, (dn.map D.bool).set at_ (.bool true), 0⟩ = H2 := hH2
      have case1 : d < o ∨ 16 < d - o + no → (decide (d < o) = true ∨ (decide (d < o) = false ∧ decide (16 < d - o + no) = true)) := by
        intro h
        by_cases q : d < o
        · exact .inl (dt q)
        · exact .inr ⟨df q, dt (by omega)⟩
      by_cases hok : d < o ∨ 16 < d - o + no
      · rw [if_pos hok] at hr1
        rw [SC_eq]
        rcases case1 hok with q | ⟨q, q2⟩
        · conv => arg 1; arg 1; arg 1; simp [restAt, scopeAt, scopeIn, findLabel, Try.f28, s0, hL, hneg, kc, kb1, op_nilp, hx, hgn, hH2', kc2, kd2, hx', hg', hSt, kc3, kd3, hgd, w1, w2, q]
          exact hr1 _ _ ds _ _ _ rfl C3 (by simp)
        · conv => arg 1; arg 1; arg 1; simp [restAt, scopeAt, scopeIn, findLabel, Try.f28, s0, hL, hneg, kc, kb1, op_nilp, hx, hgn, hH2', kc2, kd2, hx', hg', hSt, kc3, kd3, hgd, w1, w2, q, q2]
          exact hr1 _ _ ds _ _ _ rfl C3 (by simp)
      · rw [if_neg hok] at hr1 he
        have q : decide (d < o) = false := df (by omega)
        have q2 : decide (16 < d - o + no) = false := df (by omega)
        have hb : 0 ≤ d - o + no ∧ d - o + no ≤ 16 := by omega
        obtain ⟨b, hbb⟩ : ∃ b, d - o + no = b := ⟨_, rfl⟩
        rw [hbb] at w2 q2 hb hr1 he
        simp only [hbb] at Istep
        rw [SC_eq]
        conv => arg 1; arg 1; arg 1; simp [restAt, scopeAt, scopeIn, findLabel, Try.f28, s0, hL, hneg, kc, kb1, op_nilp, hx, hgn, hH2', kc2, kd2, hx', hg', hSt, kc3, kd3, hgd, w1, w2, q, q2, hNx, hbb]
        simp only [Option.bind_assoc]
        refine clay_loop p f h200 ck di ni (dn.set at_ true) at_ (nextO y at_) b hb hnl _ Q (nextP y at_) 0 ds _ _ (by simpa using hnP) hnx (C2.app [⟨0, 3, [encInstr y], 0⟩, ⟨0, 3, [encInstr y], 0⟩]) hdl (by simp [s0]) (by simp) (by simp) (by simp) (by simp) ?_ ?_
        · intro σ' H' ds' e hl hk' h2
          rw [hl] at hr1
          simp [scopeK_ret]
          exact hr1 σ' H' ds' _ _ _ rfl hk' h2
        · intro σ' H' ds' hl hk' t0
          rw [hl] at hr1 he
          simp [W_goto, seqK_goto]
          rw [scopeK_goto _ _ _ hfl]
          refine ih ds' (dn.set at_ true) at_ H' σ' (Istep ds' (by rw [← hbb]; exact hok) hl) ?_ hk' t0 hr1 he
          have := count_set (l := dn) (i := at_) (by omega) ha4
          omega
theorem creach_spec (p : Option (List Fu)) (f : Fu) (hs : Safe (p.getD []) f.c) (hj : Jumps f.c) (h1 : 1 ≤ f.c.length) (ck di ni : Nat) (pl : Int) (H : List Ob) (hC : Ck H p f ck di ni (List.replicate f.c.length (-1)) (List.replicate f.c.length false) pl) (Q : Option (D × List Ob) → Prop)
    (q1 : ∀ H' ds' dn' a e, reach (shapes (p.getD []) f.c) = .inl (a, e) → Ck H' p f ck di ni ds' dn' a → Q (some (I e, H')))
    (q2 : ∀ H' ds' dn' a, reach (shapes (p.getD []) f.c) = .inr ds' → ds'.length = f.c.length → Ck H' p f ck di ni ds' dn' a → Q (some (I 0, H'))) :
    Q (body Try.prog R 28 [.ptr ck 0 0 0] H) := by
  have hsl := shapes_len (p.getD []) f.c
  have h200 := hs.len
  have kc := hC.c; have kd := hC.d
  have hx := idxD_nat .i64 (show 0 < f.c.length by omega)
  have hg : (List.replicate f.c.length (-1 : Int))[0]? = some (-1) := by rw [List.getElem?_replicate, if_pos (by omega)]
  have hx0 : idxD f.c.length (D.int .i64 0) = some 0 := hx
  have hm : ((List.replicate f.c.length (-1 : Int)).map I).set 0 (D.int .i64 0) = ((List.replicate f.c.length (-1 : Int)).set 0 0).map I := by rw [List.map_set]
  have hgm := map_get (e := I) hg
  rw [body_eq Try.func28 rfl rfl]
  have e1 : W Try.prog cfg (scopeAt Try.f28) ⟨upd (argsσ [.ptr ck 0 0 0]) 2 (D.int .i64 0), H, 109⟩ = (W Try.prog cfg (seq1 (scopeAt Try.f28)) ⟨upd (argsσ [.ptr ck 0 0 0]) 2 (D.int .i64 0), H, 109⟩).bind (seqK Try.prog cfg (restAt Try.f28 0)) := by
    rw [show scopeAt Try.f28 = .seq (seq1 (scopeAt Try.f28)) (.seq (.label 0) (seq2 (restAt Try.f28 0))) by kernel_rfl, Wseq]
    congr 1
    funext r
    obtain ⟨e, st⟩ := r
    cases e <;> first | rfl | skip
    rw [seqK_normal, seqK_normal, show restAt Try.f28 0 = .seq .skip (seq2 (restAt Try.f28 0)) by kernel_rfl, Wseq, Wseq, W_label, W_skip]
    rfl
  have main : Q (((SC Try.prog cfg (scopeAt Try.f28) (scopeAt Try.f28) ⟨upd (argsσ [.ptr ck 0 0 0]) 2 (D.int .i64 0), H, 109⟩).bind fun y => endK Try.prog Try.f28 y)) := by
    rw [SC_eq, e1]
    conv => arg 1; arg 1; arg 1; arg 1; simp [seq1, scopeAt, scopeIn, Try.f28, argsσ, kc, kd, op_nilp, hx0, hgm, -List.map_replicate]
    rw [Option.bind_some, seqK_normal, ← SC_eq, hm]
    refine cmain_loop p f hs hj ck di ni _ Q (f.c.length + 1) _ _ pl _ _ (by have := Inv.init (sh := shapes (p.getD []) f.c) (by rw [hsl]; omega); rw [hsl] at this; exact this) (by simp) (hC.setD _) (by simp [argsσ]) ?_ ?_
    · intro σ' H' ds' dn' a e hr hk h2
      have hr' : reach (shapes (p.getD []) f.c) = .inl (a, e) := by unfold reach; rw [hsl]; exact hr
      simp [h2, Vm.results]
      exact q1 H' ds' dn' a e hr' hk
    · intro σ' H' ds' dn' a hr hl hk h2
      have hr' : reach (shapes (p.getD []) f.c) = .inr ds' := by unfold reach; rw [hsl]; exact hr
      simp [h2, Vm.results]
      exact q2 H' ds' dn' a hr' hl hk
  have e2 : W Try.prog cfg (Try.f28.body.getD .skip) ⟨argsσ [.ptr ck 0 0 0], H, 109⟩ = SC Try.prog cfg (scopeAt Try.f28) (scopeAt Try.f28) ⟨upd (argsσ [.ptr ck 0 0 0]) 2 (D.int .i64 0), H, 109⟩ := by
    rw [← Wscope, show Try.f28.body.getD .skip = .seq (seq1 (Try.f28.body.getD .skip)) (.scope (scopeAt Try.f28)) by kernel_rfl, Wseq]
    conv => lhs; arg 1; simp [seq1, Try.f28]
    rw [Option.bind_some, seqK_normal]
  rw [← e2] at main
  exact main
end Go.Proofs.YtcbmmiglccmekaaW.Rg
