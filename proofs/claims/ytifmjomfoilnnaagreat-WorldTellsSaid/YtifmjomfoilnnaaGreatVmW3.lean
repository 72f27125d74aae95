/- Equal programs, equal deques. No conditions. -/
import Derived.Test.YtifmjomfoilnnaaGreatVmW2
set_option linter.unusedVariables false
set_option linter.unusedSimpArgs false
set_option maxRecDepth 10000
namespace Go.Proofs.YtifmjomfoilnnaaGreatW.Rg
open Go.Proofs.YtifmjomfoilnnaaGreatW.Vm Go.Proofs.YtifmjomfoilnnaaGreatW.Md
open Go.Proofs.YtifmjomfoilnnaaGreatW.Rn (Ring encRing)
open Go Go.Proofs
theorem neq_ins (s t : Operand) (x y : Instr) : binD Tryz.prog .neq 115 s t (encInstr x) (encInstr y) = some (.bool (!decide (x = y))) := by
  obtain ⟨a, b, c⟩ := x
  obtain ⟨a', b', c'⟩ := y
  simp only [binD, scal, eqD, ft115, scalsEq, scalEq]
  simp only [Option.map_some, if_true, Option.some.injEq, D.bool.injEq]
  rw [Bool.eq_iff_iff]
  simp [Instr.mk.injEq]
theorem eqIn_loop (a b : Option (List Instr)) (hlen : (a.getD []).length = (b.getD []).length) (hs : (a.getD []).length < 2 ^ 62) {X : Type} (K : Ex × St → Option X) (Q : Option X → Prop) : ∀ (m i : Nat) (σ : Nat → D), i + m = (a.getD []).length →
    σ 0 = encL 3 encInstr a → σ 1 = encL 3 encInstr b → σ 12 = I (a.getD []).length → σ 13 = I i →
    (∀ σ', (a.getD []).drop i = (b.getD []).drop i → Q (K (.exit 0, ⟨σ', [], 26⟩))) → (∀ σ', (a.getD []).drop i ≠ (b.getD []).drop i → σ' 4 = .bool false → Q (K (.ret, ⟨σ', [], 26⟩))) →
    Q ((W Tryz.prog cfg (.loop (loopAt Tryz.f77 4)) ⟨σ, [], 26⟩).bind K) := by
  intro m
  induction m with
  | zero =>
    intro i σ hi s0 s1 s12 s13 hK hR
    have h0 : ¬ (i < (a.getD []).length) := by omega
    rw [Wloop]
    conv => arg 1; arg 1; arg 1; simp [loopAt, loopIn, headId, Tryz.f77, s0, s1, s12, s13, h0]
    exact hK _ (by rw [List.drop_eq_nil_of_le (by omega), List.drop_eq_nil_of_le (by omega)])
  | succ m ih =>
    intro i σ hi s0 s1 s12 s13 hK hR
    have ha : i < (a.getD []).length := by omega
    have hb : i < (b.getD []).length := by omega
    have hlt : decide (i < (a.getD []).length) = true := dt ha
    have xa := idxD_nat .i64 ha; have xb := idxD_nat .i64 hb
    have ga : (a.getD [])[i]? = some (a.getD [])[i] := List.getElem?_eq_getElem ha
    have gb : (b.getD [])[i]? = some (b.getD [])[i] := List.getElem?_eq_getElem hb
    have hw : IntKind.i64.wrap ((i : Int) + 1) = ((i + 1 : Nat) : Int) := wr (by omega) (by omega)
    have hd := dr77_6
    simp [opsAt, opsIn, Tryz.f77] at hd
    have hdw := Wdraw0 hd
    clear hd
    have hq := fun s t => neq_ins s t (a.getD [])[i] (b.getD [])[i]
    cases k : decide ((a.getD [])[i] = (b.getD [])[i])
    · rw [k] at hq
      have hne : (a.getD []).drop i ≠ (b.getD []).drop i := fun h => (of_decide_eq_false k) ((drop_eq_iff ha hb).1 h).1
      generalize (a.getD [])[i] = u at *
      generalize (b.getD [])[i] = v at *
      rw [Wloop]
      conv => arg 1; arg 1; arg 1; simp [loopAt, loopIn, headId, Tryz.f77, s0, s1, s12, s13, hlt, xa, xb, ga, gb, hdw, hq]
      exact hR _ hne (by simp)
    · have e := of_decide_eq_true k
      rw [k] at hq
      have hK' : ∀ σ', (a.getD []).drop (i + 1) = (b.getD []).drop (i + 1) → Q (K (.exit 0, ⟨σ', [], 26⟩)) := fun σ' h => hK σ' ((drop_eq_iff ha hb).2 ⟨e, h⟩)
      have hR' : ∀ σ', (a.getD []).drop (i + 1) ≠ (b.getD []).drop (i + 1) → σ' 4 = .bool false → Q (K (.ret, ⟨σ', [], 26⟩)) := fun σ' h => hR σ' (fun h2 => h ((drop_eq_iff ha hb).1 h2).2)
      clear hK hR
      generalize (a.getD [])[i] = u at *
      generalize (b.getD [])[i] = v at *
      rw [Wloop]
      conv => arg 1; arg 1; arg 1; simp [loopAt, loopIn, headId, Tryz.f77, s0, s1, s12, s13, hlt, xa, xb, ga, gb, hdw, hq, hw]
      rw [Option.bind_some, loopK_normal]
      exact ih (i + 1) _ (by omega) (by simp [s0]) (by simp [s1]) (by simp [s12]) (by simp) hK' hR'
theorem eqIn_spec (a b : Option (List Instr)) (hs : (a.getD []).length < 2 ^ 62) : fnc Tryz.prog cfg R 77 [encL 3 encInstr a, encL 3 encInstr b] = some (.bool (decide (a.getD [] = b.getD []))) := by
  rw [fnc_at rfl, body_eq Tryz.func77 rfl rfl]
  cases k : decide ((a.getD []).length = (b.getD []).length)
  · have e : decide (a.getD [] = b.getD []) = false := df (fun h => (of_decide_eq_false k) (by rw [h]))
    rw [e]
    have k' : decide (((a.getD []).length : Int) = ((b.getD []).length : Int)) = false := df (by have := of_decide_eq_false k; omega)
    simp [argsσ, Vm.results, k, k']
  · have hl := of_decide_eq_true k
    have k' : decide (((a.getD []).length : Int) = ((b.getD []).length : Int)) = true := dt (by omega)
    simp [argsσ, k, k', Option.bind_assoc]
    refine eqIn_loop a b hl hs _ (fun o => o = some _) (a.getD []).length 0 _ (by omega) (by simp [argsσ]) (by simp [argsσ]) (by simp) (by simp) ?_ ?_
    · intro σ' h
      simp only [List.drop_zero] at h
      have e : decide (a.getD [] = b.getD []) = true := dt h
      simp [Vm.results, e, h]
    · intro σ' h t4
      simp only [List.drop_zero] at h
      simp [Vm.results, t4, h]
theorem eqRf_loop (a b : Option (List Rf)) (hlen : (a.getD []).length = (b.getD []).length) (hs : (a.getD []).length < 2 ^ 62) {X : Type} (K : Ex × St → Option X) (Q : Option X → Prop) : ∀ (m i : Nat) (σ : Nat → D), i + m = (a.getD []).length →
    σ 0 = encL 2 encRf a → σ 1 = encL 2 encRf b → σ 12 = I (a.getD []).length → σ 13 = I i →
    (∀ σ', (a.getD []).drop i = (b.getD []).drop i → Q (K (.exit 0, ⟨σ', [], 26⟩))) → (∀ σ', (a.getD []).drop i ≠ (b.getD []).drop i → σ' 4 = .bool false → Q (K (.ret, ⟨σ', [], 26⟩))) →
    Q ((W Tryz.prog cfg (.loop (loopAt Tryz.f50 4)) ⟨σ, [], 26⟩).bind K) := by
  intro m
  induction m with
  | zero =>
    intro i σ hi s0 s1 s12 s13 hK hR
    have h0 : ¬ (i < (a.getD []).length) := by omega
    rw [Wloop]
    conv => arg 1; arg 1; arg 1; simp [loopAt, loopIn, headId, Tryz.f50, s0, s1, s12, s13, h0]
    exact hK _ (by rw [List.drop_eq_nil_of_le (by omega), List.drop_eq_nil_of_le (by omega)])
  | succ m ih =>
    intro i σ hi s0 s1 s12 s13 hK hR
    have ha : i < (a.getD []).length := by omega
    have hb : i < (b.getD []).length := by omega
    have hlt : decide (i < (a.getD []).length) = true := dt ha
    have xa := idxD_nat .i64 ha; have xb := idxD_nat .i64 hb
    have ga : (a.getD [])[i]? = some (a.getD [])[i] := List.getElem?_eq_getElem ha
    have gb : (b.getD [])[i]? = some (b.getD [])[i] := List.getElem?_eq_getElem hb
    have hw : IntKind.i64.wrap ((i : Int) + 1) = ((i + 1 : Nat) : Int) := wr (by omega) (by omega)
    have hd := dr50_6
    simp [opsAt, opsIn, Tryz.f50] at hd
    have hdw := Wdraw0 hd
    clear hd
    have hq := fun s t => neq_rf s t (a.getD [])[i] (b.getD [])[i]
    cases k : decide ((a.getD [])[i] = (b.getD [])[i])
    · rw [k] at hq
      have hne : (a.getD []).drop i ≠ (b.getD []).drop i := fun h => (of_decide_eq_false k) ((drop_eq_iff ha hb).1 h).1
      generalize (a.getD [])[i] = u at *
      generalize (b.getD [])[i] = v at *
      rw [Wloop]
      conv => arg 1; arg 1; arg 1; simp [loopAt, loopIn, headId, Tryz.f50, s0, s1, s12, s13, hlt, xa, xb, ga, gb, hdw, hq]
      exact hR _ hne (by simp)
    · have e := of_decide_eq_true k
      rw [k] at hq
      have hK' : ∀ σ', (a.getD []).drop (i + 1) = (b.getD []).drop (i + 1) → Q (K (.exit 0, ⟨σ', [], 26⟩)) := fun σ' h => hK σ' ((drop_eq_iff ha hb).2 ⟨e, h⟩)
      have hR' : ∀ σ', (a.getD []).drop (i + 1) ≠ (b.getD []).drop (i + 1) → σ' 4 = .bool false → Q (K (.ret, ⟨σ', [], 26⟩)) := fun σ' h => hR σ' (fun h2 => h ((drop_eq_iff ha hb).1 h2).2)
      clear hK hR
      generalize (a.getD [])[i] = u at *
      generalize (b.getD [])[i] = v at *
      rw [Wloop]
      conv => arg 1; arg 1; arg 1; simp [loopAt, loopIn, headId, Tryz.f50, s0, s1, s12, s13, hlt, xa, xb, ga, gb, hdw, hq, hw]
      rw [Option.bind_some, loopK_normal]
      exact ih (i + 1) _ (by omega) (by simp [s0]) (by simp [s1]) (by simp [s12]) (by simp) hK' hR'
theorem eqRf_spec (a b : Option (List Rf)) (hs : (a.getD []).length < 2 ^ 62) : fnc Tryz.prog cfg R 50 [encL 2 encRf a, encL 2 encRf b] = some (.bool (decide (a.getD [] = b.getD []))) := by
  rw [fnc_at rfl, body_eq Tryz.func50 rfl rfl]
  cases k : decide ((a.getD []).length = (b.getD []).length)
  · have e : decide (a.getD [] = b.getD []) = false := df (fun h => (of_decide_eq_false k) (by rw [h]))
    rw [e]
    have k' : decide (((a.getD []).length : Int) = ((b.getD []).length : Int)) = false := df (by have := of_decide_eq_false k; omega)
    simp [argsσ, Vm.results, k, k']
  · have hl := of_decide_eq_true k
    have k' : decide (((a.getD []).length : Int) = ((b.getD []).length : Int)) = true := dt (by omega)
    simp [argsσ, k, k', Option.bind_assoc]
    refine eqRf_loop a b hl hs _ (fun o => o = some _) (a.getD []).length 0 _ (by omega) (by simp [argsσ]) (by simp [argsσ]) (by simp) (by simp) ?_ ?_
    · intro σ' h
      simp only [List.drop_zero] at h
      have e : decide (a.getD [] = b.getD []) = true := dt h
      simp [Vm.results, e, h]
    · intro σ' h t4
      simp only [List.drop_zero] at h
      simp [Vm.results, t4, h]
def funcK (f : Fu) : Int × Int × Int × List Instr := (f.arity, f.locals, f.slots, f.c)
def okFu (f : Fu) : Prop := f.c.length < 2 ^ 62
theorem funcEq (f g : Fu) : decide (funcK f = funcK g) = (decide (f.arity = g.arity) && decide (f.locals = g.locals) && decide (f.slots = g.slots) && decide (f.c = g.c)) := by
  unfold funcK
  rw [Bool.eq_iff_iff]
  simp only [Bool.and_eq_true, decide_eq_true_eq, Prod.mk.injEq, and_assoc]
theorem csame1_spec (f g : Fu) (h : okFu f) : fnc Tryz.prog cfg R 76 [encFunc f, encFunc g] = some (.bool (decide (funcK f = funcK g))) := by
  have hx := eqIn_spec f.code g.code h
  have exv : ∀ (h : List Ob) (b : Option (List Instr)), exp1 h (encL 3 encInstr b) = some (encL 3 encInstr b) := fun h z => exp_clean (by simp) (by simp)
  have e : decide (f.code.getD [] = g.code.getD []) = decide (f.c = g.c) := rfl
  rw [e] at hx
  rw [funcEq, fnc_at rfl, body_eq Tryz.func76 rfl rfl]
  cases k1 : decide (f.arity = g.arity)
  · simp [argsσ, Vm.results, k1]
  cases k2 : decide (f.locals = g.locals)
  · simp [argsσ, Vm.results, k1, k2]
  cases k3 : decide (f.slots = g.slots)
  · simp [argsσ, Vm.results, k1, k2, k3]
  simp [argsσ, Vm.results, k1, k2, k3, hx, exv]
theorem eqFu_loop (a b : Option (List Fu)) (hlen : (a.getD []).length = (b.getD []).length) (hs : (a.getD []).length < 2 ^ 62) (hA : ∀ c ∈ a.getD [], okFu c) {X : Type} (K : Ex × St → Option X) (Q : Option X → Prop) : ∀ (m i : Nat) (σ : Nat → D) (H : List Ob), i + m = (a.getD []).length →
    σ 1 = encL 4 encFunc b → σ 2 = .clo (.func 76) [] [] → σ 15 = encL 4 encFunc a → σ 16 = I (a.getD []).length → σ 17 = I i →
    (∀ σ' H', ((a.getD []).drop i).map funcK = ((b.getD []).drop i).map funcK → Q (K (.exit 0, ⟨σ', H', 32⟩))) → (∀ σ' H', ((a.getD []).drop i).map funcK ≠ ((b.getD []).drop i).map funcK → σ' 6 = .bool false → Q (K (.ret, ⟨σ', H', 32⟩))) →
    Q ((W Tryz.prog cfg (.loop (loopAt Tryz.f75 4)) ⟨σ, H, 32⟩).bind K) := by
  intro m
  induction m with
  | zero =>
    intro i σ H hi s1 s2 s15 s16 s17 hK hR
    have h0 : ¬ (i < (a.getD []).length) := by omega
    rw [Wloop]
    conv => arg 1; arg 1; arg 1; simp [loopAt, loopIn, headId, Tryz.f75, s1, s2, s15, s16, s17, h0]
    exact hK _ _ (by rw [List.drop_eq_nil_of_le (by omega), List.drop_eq_nil_of_le (by omega)])
  | succ m ih =>
    intro i σ H hi s1 s2 s15 s16 s17 hK hR
    have ha : i < (a.getD []).length := by omega
    have hb : i < (b.getD []).length := by omega
    have hlt : decide (i < (a.getD []).length) = true := dt ha
    have xa := idxD_nat .i64 ha; have xb := idxD_nat .i64 hb
    have ga : (a.getD [])[i]? = some (a.getD [])[i] := List.getElem?_eq_getElem ha
    have gb : (b.getD [])[i]? = some (b.getD [])[i] := List.getElem?_eq_getElem hb
    have hw : IntKind.i64.wrap ((i : Int) + 1) = ((i + 1 : Nat) : Int) := wr (by omega) (by omega)
    have hq := csame1_spec (a.getD [])[i] (b.getD [])[i] (hA _ (List.getElem_mem ha))
    have e0 : ((a.getD []).drop i).map funcK = funcK (a.getD [])[i] :: ((a.getD []).drop (i + 1)).map funcK := by rw [List.drop_eq_getElem_cons ha, List.map_cons]
    have e1 : ((b.getD []).drop i).map funcK = funcK (b.getD [])[i] :: ((b.getD []).drop (i + 1)).map funcK := by rw [List.drop_eq_getElem_cons hb, List.map_cons]
    have ql : ∀ o : Ob, (H ++ [o])[H.length]? = some o := fun o => by simp
    have qs := sgx H
    have q0 : ∀ o o' : Ob, (H ++ [o, o'])[H.length]? = some o := fun o o' => by simp
    have q1 : ∀ o o' : Ob, (H ++ [o, o'])[H.length + 1]? = some o' := fun o o' => by simp
    have s1' : ∀ o o' p : Ob, (H ++ [o, o']).set (H.length + 1) p = H ++ [o, p] := fun o o' p => by simp
    have exv : ∀ (h : List Ob) (b : Option (List Instr)), exp1 h (encL 3 encInstr b) = some (encL 3 encInstr b) := fun h z => exp_clean (by simp) (by simp)
    cases k : decide (funcK (a.getD [])[i] = funcK (b.getD [])[i])
    · rw [k] at hq
      have hne : ((a.getD []).drop i).map funcK ≠ ((b.getD []).drop i).map funcK := fun h => by rw [e0, e1] at h; exact (of_decide_eq_false k) (List.cons.inj h).1
      generalize (a.getD [])[i] = u at *
      generalize (b.getD [])[i] = v at *
      rw [Wloop]
      conv => arg 1; arg 1; arg 1; simp [loopAt, loopIn, headId, Tryz.f75, s1, s2, s15, s16, s17, hlt, xa, xb, ga, gb, hq, ql, qs, q0, q1, s1', exv, -getElem?_pos]
      exact hR _ _ hne (by simp)
    · have e := of_decide_eq_true k
      rw [k] at hq
      have hK' : ∀ σ' H', ((a.getD []).drop (i + 1)).map funcK = ((b.getD []).drop (i + 1)).map funcK → Q (K (.exit 0, ⟨σ', H', 32⟩)) := fun σ' H' h => hK σ' H' (by rw [e0, e1, e, h])
      have hR' : ∀ σ' H', ((a.getD []).drop (i + 1)).map funcK ≠ ((b.getD []).drop (i + 1)).map funcK → σ' 6 = .bool false → Q (K (.ret, ⟨σ', H', 32⟩)) := fun σ' H' h => hR σ' H' (fun h2 => by rw [e0, e1] at h2; exact h (List.cons.inj h2).2)
      clear hK hR e0 e1
      generalize (a.getD [])[i] = u at *
      generalize (b.getD [])[i] = v at *
      rw [Wloop]
      conv => arg 1; arg 1; arg 1; simp [loopAt, loopIn, headId, Tryz.f75, s1, s2, s15, s16, s17, hlt, xa, xb, ga, gb, hq, hw, ql, qs, q0, q1, s1', exv, -getElem?_pos]
      rw [Option.bind_some, loopK_normal]
      exact ih (i + 1) _ _ (by omega) (by simp [s1]) (by simp [s2]) (by simp [s15]) (by simp [s16]) (by simp) hK' hR'
theorem eqFu_spec (a b : Option (List Fu)) (hs : (a.getD []).length < 2 ^ 62) (hA : ∀ c ∈ a.getD [], okFu c) : fnc Tryz.prog cfg R 75 [encL 4 encFunc a, encL 4 encFunc b, .clo (.func 76) [] []] = some (.bool (decide ((a.getD []).map funcK = (b.getD []).map funcK))) := by
  rw [fnc_at rfl, body_eq Tryz.func75 rfl rfl]
  cases k : decide ((a.getD []).length = (b.getD []).length)
  · have e : decide ((a.getD []).map funcK = (b.getD []).map funcK) = false := df (fun h => (of_decide_eq_false k) (by have := congrArg List.length h; simpa using this))
    rw [e]
    have k' : decide (((a.getD []).length : Int) = ((b.getD []).length : Int)) = false := df (by have := of_decide_eq_false k; omega)
    simp [argsσ, Vm.results, k, k']
  · have hl := of_decide_eq_true k
    have k' : decide (((a.getD []).length : Int) = ((b.getD []).length : Int)) = true := dt (by omega)
    simp [argsσ, k, k', Option.bind_assoc]
    refine eqFu_loop a b hl hs hA _ (fun o => o = some _) (a.getD []).length 0 _ _ (by omega) (by simp [argsσ]) (by simp [argsσ]) (by simp [argsσ]) (by simp) (by simp) ?_ ?_
    · intro σ' H' h
      simp only [List.drop_zero] at h
      have e : decide ((a.getD []).map funcK = (b.getD []).map funcK) = true := dt h
      simp [Vm.results, e, h]
    · intro σ' H' h t4
      simp only [List.drop_zero] at h
      simp [Vm.results, t4, h]
theorem csame_spec (a b : Option (List Fu)) (hs : (a.getD []).length < 2 ^ 62) (hA : ∀ c ∈ a.getD [], okFu c) : fnc Tryz.prog cfg R 46 [encProg a, encProg b] = some (.bool (decide ((a.getD []).map funcK = (b.getD []).map funcK))) := by
  have h := eqFu_spec a b hs hA
  have exv : ∀ (h : List Ob) (b : Option (List Fu)), exp1 h (encL 4 encFunc b) = some (encL 4 encFunc b) := fun h z => exp_clean (by simp) (by simp)
  rw [fnc_at rfl, body_eq Tryz.func46 rfl rfl]
  simp [argsσ, Vm.results, h, exv]
def ringK (r : Ring) : List Rf × Int × Int × Int := (r.l, r.head, r.many, r.most)
def okRi (r : Ring) : Prop := r.l.length < 2 ^ 62
theorem ringEq (f g : Ring) : decide (ringK f = ringK g) = (decide (f.l = g.l) && decide (f.head = g.head) && decide (f.many = g.many) && decide (f.most = g.most)) := by
  unfold ringK
  rw [Bool.eq_iff_iff]
  simp only [Bool.and_eq_true, decide_eq_true_eq, Prod.mk.injEq, and_assoc]
theorem sring_spec (f g : Ring) (h : okRi f) : fnc Tryz.prog cfg R 49 [encRing f, encRing g] = some (.bool (decide (ringK f = ringK g))) := by
  have hx := eqRf_spec f.buf g.buf h
  have exv : ∀ (h : List Ob) (b : Option (List Rf)), exp1 h (encL 2 encRf b) = some (encL 2 encRf b) := fun h z => exp_clean (by simp) (by simp)
  have e : decide (f.buf.getD [] = g.buf.getD []) = decide (f.l = g.l) := rfl
  rw [e] at hx
  rw [ringEq, fnc_at rfl, body_eq Tryz.func49 rfl rfl]
  cases k0 : decide (f.l = g.l) <;> rw [k0] at hx
  · simp [argsσ, Vm.results, hx, exv]
  cases k1 : decide (f.head = g.head)
  · simp [argsσ, Vm.results, hx, exv, k1]
  cases k2 : decide (f.many = g.many)
  · simp [argsσ, Vm.results, hx, exv, k1, k2]
  simp [argsσ, Vm.results, k1, k2, hx, exv]
theorem eqRi_loop (a b : Option (List Ring)) (hlen : (a.getD []).length = (b.getD []).length) (hs : (a.getD []).length < 2 ^ 62) (hA : ∀ c ∈ a.getD [], okRi c) {X : Type} (K : Ex × St → Option X) (Q : Option X → Prop) : ∀ (m i : Nat) (σ : Nat → D) (H : List Ob), i + m = (a.getD []).length →
    σ 1 = encL 4 encRing b → σ 2 = .clo (.func 49) [] [] → σ 15 = encL 4 encRing a → σ 16 = I (a.getD []).length → σ 17 = I i →
    (∀ σ' H', ((a.getD []).drop i).map ringK = ((b.getD []).drop i).map ringK → Q (K (.exit 0, ⟨σ', H', 32⟩))) → (∀ σ' H', ((a.getD []).drop i).map ringK ≠ ((b.getD []).drop i).map ringK → σ' 6 = .bool false → Q (K (.ret, ⟨σ', H', 32⟩))) →
    Q ((W Tryz.prog cfg (.loop (loopAt Tryz.f48 4)) ⟨σ, H, 32⟩).bind K) := by
  intro m
  induction m with
  | zero =>
    intro i σ H hi s1 s2 s15 s16 s17 hK hR
    have h0 : ¬ (i < (a.getD []).length) := by omega
    rw [Wloop]
    conv => arg 1; arg 1; arg 1; simp [loopAt, loopIn, headId, Tryz.f48, s1, s2, s15, s16, s17, h0]
    exact hK _ _ (by rw [List.drop_eq_nil_of_le (by omega), List.drop_eq_nil_of_le (by omega)])
  | succ m ih =>
    intro i σ H hi s1 s2 s15 s16 s17 hK hR
    have ha : i < (a.getD []).length := by omega
    have hb : i < (b.getD []).length := by omega
    have hlt : decide (i < (a.getD []).length) = true := dt ha
    have xa := idxD_nat .i64 ha; have xb := idxD_nat .i64 hb
    have ga : (a.getD [])[i]? = some (a.getD [])[i] := List.getElem?_eq_getElem ha
    have gb : (b.getD [])[i]? = some (b.getD [])[i] := List.getElem?_eq_getElem hb
    have hw : IntKind.i64.wrap ((i : Int) + 1) = ((i + 1 : Nat) : Int) := wr (by omega) (by omega)
    have hq := sring_spec (a.getD [])[i] (b.getD [])[i] (hA _ (List.getElem_mem ha))
    have e0 : ((a.getD []).drop i).map ringK = ringK (a.getD [])[i] :: ((a.getD []).drop (i + 1)).map ringK := by rw [List.drop_eq_getElem_cons ha, List.map_cons]
    have e1 : ((b.getD []).drop i).map ringK = ringK (b.getD [])[i] :: ((b.getD []).drop (i + 1)).map ringK := by rw [List.drop_eq_getElem_cons hb, List.map_cons]
    have ql : ∀ o : Ob, (H ++ [o])[H.length]? = some o := fun o => by simp
    have qs := sgx H
    have q0 : ∀ o o' : Ob, (H ++ [o, o'])[H.length]? = some o := fun o o' => by simp
    have q1 : ∀ o o' : Ob, (H ++ [o, o'])[H.length + 1]? = some o' := fun o o' => by simp
    have s1' : ∀ o o' p : Ob, (H ++ [o, o']).set (H.length + 1) p = H ++ [o, p] := fun o o' p => by simp
    have exv : ∀ (h : List Ob) (b : Option (List Rf)), exp1 h (encL 2 encRf b) = some (encL 2 encRf b) := fun h z => exp_clean (by simp) (by simp)
    cases k : decide (ringK (a.getD [])[i] = ringK (b.getD [])[i])
    · rw [k] at hq
      have hne : ((a.getD []).drop i).map ringK ≠ ((b.getD []).drop i).map ringK := fun h => by rw [e0, e1] at h; exact (of_decide_eq_false k) (List.cons.inj h).1
      generalize (a.getD [])[i] = u at *
      generalize (b.getD [])[i] = v at *
      rw [Wloop]
      conv => arg 1; arg 1; arg 1; simp [loopAt, loopIn, headId, Tryz.f48, s1, s2, s15, s16, s17, hlt, xa, xb, ga, gb, hq, ql, qs, q0, q1, s1', exv, -getElem?_pos]
      exact hR _ _ hne (by simp)
    · have e := of_decide_eq_true k
      rw [k] at hq
      have hK' : ∀ σ' H', ((a.getD []).drop (i + 1)).map ringK = ((b.getD []).drop (i + 1)).map ringK → Q (K (.exit 0, ⟨σ', H', 32⟩)) := fun σ' H' h => hK σ' H' (by rw [e0, e1, e, h])
      have hR' : ∀ σ' H', ((a.getD []).drop (i + 1)).map ringK ≠ ((b.getD []).drop (i + 1)).map ringK → σ' 6 = .bool false → Q (K (.ret, ⟨σ', H', 32⟩)) := fun σ' H' h => hR σ' H' (fun h2 => by rw [e0, e1] at h2; exact h (List.cons.inj h2).2)
      clear hK hR e0 e1
      generalize (a.getD [])[i] = u at *
      generalize (b.getD [])[i] = v at *
      rw [Wloop]
      conv => arg 1; arg 1; arg 1; simp [loopAt, loopIn, headId, Tryz.f48, s1, s2, s15, s16, s17, hlt, xa, xb, ga, gb, hq, hw, ql, qs, q0, q1, s1', exv, -getElem?_pos]
      rw [Option.bind_some, loopK_normal]
      exact ih (i + 1) _ _ (by omega) (by simp [s1]) (by simp [s2]) (by simp [s15]) (by simp [s16]) (by simp) hK' hR'
theorem eqRi_spec (a b : Option (List Ring)) (hs : (a.getD []).length < 2 ^ 62) (hA : ∀ c ∈ a.getD [], okRi c) : fnc Tryz.prog cfg R 48 [encL 4 encRing a, encL 4 encRing b, .clo (.func 49) [] []] = some (.bool (decide ((a.getD []).map ringK = (b.getD []).map ringK))) := by
  rw [fnc_at rfl, body_eq Tryz.func48 rfl rfl]
  cases k : decide ((a.getD []).length = (b.getD []).length)
  · have e : decide ((a.getD []).map ringK = (b.getD []).map ringK) = false := df (fun h => (of_decide_eq_false k) (by have := congrArg List.length h; simpa using this))
    rw [e]
    have k' : decide (((a.getD []).length : Int) = ((b.getD []).length : Int)) = false := df (by have := of_decide_eq_false k; omega)
    simp [argsσ, Vm.results, k, k']
  · have hl := of_decide_eq_true k
    have k' : decide (((a.getD []).length : Int) = ((b.getD []).length : Int)) = true := dt (by omega)
    simp [argsσ, k, k', Option.bind_assoc]
    refine eqRi_loop a b hl hs hA _ (fun o => o = some _) (a.getD []).length 0 _ _ (by omega) (by simp [argsσ]) (by simp [argsσ]) (by simp [argsσ]) (by simp) (by simp) ?_ ?_
    · intro σ' H' h
      simp only [List.drop_zero] at h
      have e : decide ((a.getD []).map ringK = (b.getD []).map ringK) = true := dt h
      simp [Vm.results, e, h]
    · intro σ' H' h t4
      simp only [List.drop_zero] at h
      simp [Vm.results, t4, h]
/-! worlds -/
@[reducible] def encRest (w : Wd) : D := .agg [I w.fuel, I w.frames, I w.room, I w.root.ag, I w.root.gen, I w.used, I w.state, I w.out.trap, I w.out.v.re, I w.out.v.im, I w.err, I w.steals, I w.misses]
def restK (w : Wd) : List Int := [w.fuel, w.frames, w.room, w.root.ag, w.root.gen, w.used, w.state, w.out.trap, w.out.v.re, w.out.v.im, w.err, w.steals, w.misses]
theorem rest_spec (w : Wd) : fnc Tryz.prog cfg R 45 [encW w] = some (encRest w) := by
  rw [fnc_at rfl, body_eq Tryz.func45 rfl rfl]
  simp [argsσ, Vm.results]
theorem eq_rest (s t : Operand) (a b : Wd) : binD Tryz.prog .eql 92 s t (encRest a) (encRest b) = some (.bool (decide (restK a = restK b))) := by
  simp only [binD, scal, eqD, ft92, scalsEq, scalEq]
  simp only [Option.map_some, if_true, Option.some.injEq, D.bool.injEq]
  rw [Bool.eq_iff_iff]
  simp [restK]
def sameW (a b : Wd) : Bool := decide (restK a = restK b) && decide ((a.prog.getD []).map funcK = (b.prog.getD []).map funcK) && samePn (pnW a) (pnW b) && decide (a.rl.map ringK = b.rl.map ringK) && decide (a.cl = b.cl)
/-- a world of which the lists can be counted -/
structure okV (w : Wd) : Prop where
  p : (w.prog.getD []).length < 2 ^ 62
  pc : ∀ f ∈ w.prog.getD [], okFu f
  c : (w.cs.getD []).length < 2 ^ 62
  f : (w.fr.getD []).length < 2 ^ 62
  x : ∀ c ∈ w.cs.getD [], okC c
  r : w.rl.length < 2 ^ 62
  rb : ∀ r ∈ w.rl, okRi r
  u : w.cl.length < 2 ^ 62
theorem sameW_spec (a b : Wd) (h : okV a) : fnc Tryz.prog cfg R 20 [encW a, encW b] = some (.bool (sameW a b)) := by
  have e1 := rest_spec a; have e2 := rest_spec b
  have e3 := fun s t => eq_rest s t a b
  have e4 := csame_spec a.prog b.prog h.p h.pc
  have e5 := psame_spec a.cs b.cs a.fr b.fr a.pm b.pm h.c h.f h.x
  have e6 := eqRi_spec a.rings b.rings h.r h.rb
  have e7 := eqRf_spec a.cur b.cur h.u
  have exv : ∀ (h : List Ob) (b : Option (List Fu)), exp1 h (encL 4 encFunc b) = some (encL 4 encFunc b) := fun h z => exp_clean (by simp) (by simp)
  have exc : ∀ (h : List Ob) (b : Option (List Ce)), exp1 h (encL 18 encCe b) = some (encL 18 encCe b) := fun h z => exp_clean (by simp) (by simp)
  have exi : ∀ (h : List Ob) (b : Option (List Int)), exp1 h (encL 1 I b) = some (encL 1 I b) := fun h z => exp_clean (by simp) (by simp)
  have exr : ∀ (h : List Ob) (b : Option (List Rf)), exp1 h (encL 2 encRf b) = some (encL 2 encRf b) := fun h z => exp_clean (by simp) (by simp)
  have exg : ∀ (h : List Ob) (b : Option (List Ring)), exp1 h (encL 4 encRing b) = some (encL 4 encRing b) := fun h z => exp_clean (by simp) (by simp)
  have hd := dr20_1
  simp [opsAt, opsIn, Tryz.f20] at hd
  have w1 := Wdraw0 hd
  clear hd
  have r1 : decide ((a.rings.getD []).map ringK = (b.rings.getD []).map ringK) = decide (a.rl.map ringK = b.rl.map ringK) := rfl
  have r2 : decide (a.cur.getD [] = b.cur.getD []) = decide (a.cl = b.cl) := rfl
  have r3 : samePn ⟨a.cs.getD [], a.fr.getD [], a.pm⟩ ⟨b.cs.getD [], b.fr.getD [], b.pm⟩ = samePn (pnW a) (pnW b) := rfl
  rw [r1] at e6
  rw [r2] at e7
  rw [r3] at e5
  unfold sameW
  rw [fnc_at rfl, body_eq Tryz.func20 rfl rfl]
  cases k1 : decide (restK a = restK b) <;> simp only [k1] at e3
  · simp [argsσ, Vm.results, e1, e2, e3, exv, exc, exi, exr, exg, w1]
  cases k2 : decide ((a.prog.getD []).map funcK = (b.prog.getD []).map funcK) <;> rw [k2] at e4
  · simp [argsσ, Vm.results, e1, e2, e3, e4, exv, exc, exi, exr, exg, w1]
  cases k3 : samePn (pnW a) (pnW b) <;> rw [k3] at e5
  · simp [argsσ, Vm.results, e1, e2, e3, e4, e5, exv, exc, exi, exr, exg, w1]
  cases k4 : decide (a.rl.map ringK = b.rl.map ringK) <;> rw [k4] at e6
  · simp [argsσ, Vm.results, e1, e2, e3, e4, e5, e6, exv, exc, exi, exr, exg, w1]
  cases k5 : decide (a.cl = b.cl) <;> rw [k5] at e7
  · simp [argsσ, Vm.results, e1, e2, e3, e4, e5, e6, e7, exv, exc, exi, exr, exg, w1]
  · simp [argsσ, Vm.results, e1, e2, e3, e4, e5, e6, e7, exv, exc, exi, exr, exg, w1]
end Go.Proofs.YtifmjomfoilnnaaGreatW.Rg
