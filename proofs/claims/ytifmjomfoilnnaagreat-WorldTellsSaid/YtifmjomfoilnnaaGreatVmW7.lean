/- The document: equal worlds. No conditions. -/
import Derived.Test.YtifmjomfoilnnaaGreatVmW3
import Derived.Test.YtifmjomfoilnnaaGreatVmXB
set_option linter.unusedVariables false
set_option linter.unusedSimpArgs false
set_option maxRecDepth 10000
namespace Go.Proofs.YtifmjomfoilnnaaGreatW.Rg
open Go.Proofs.YtifmjomfoilnnaaGreatW.Vm Go.Proofs.YtifmjomfoilnnaaGreatW.Md
open Go.Proofs.YtifmjomfoilnnaaGreatW.Rn (Ring encRing newRing noRing inb)
open Go Go.Proofs
theorem rsring_spec (f g : Ring) (h : okRi f) : fnc Tryz.prog cfg R 16 [encRing f, encRing g] = some (.bool (decide (ringK f = ringK g))) := by
  have hx := refs_spec f.buf g.buf h
  have exv : ∀ (h : List Ob) (b : Option (List Rf)), exp1 h (encL 2 encRf b) = some (encL 2 encRf b) := fun h z => exp_clean (by simp) (by simp)
  have e : decide (f.buf.getD [] = g.buf.getD []) = decide (f.l = g.l) := rfl
  rw [e] at hx
  rw [ringEq, fnc_at rfl, body_eq Tryz.func16 rfl rfl]
  cases k0 : decide (f.l = g.l) <;> rw [k0] at hx
  · simp [argsσ, Vm.results, hx, exv]
  cases k1 : decide (f.head = g.head)
  · simp [argsσ, Vm.results, hx, exv, k1]
  cases k2 : decide (f.many = g.many)
  · simp [argsσ, Vm.results, hx, exv, k1, k2]
  simp [argsσ, Vm.results, k1, k2, hx, exv]
theorem code_in (f g : Fu) (hlen : f.c.length = g.c.length) (hf : f.c.length < 2 ^ 62) (H : List Ob) (ka kb : Nat) (ga : H[ka]? = some ⟨0, 4, [encFunc f], 0⟩) (gb : H[kb]? = some ⟨0, 4, [encFunc g], 0⟩) {X : Type} (K : Ex × St → Option X) (Q : Option X → Prop) : ∀ (m i : Nat) (σ : Nat → D), i + m = f.c.length →
    σ 6 = .ptr ka 0 0 0 → σ 7 = .ptr kb 0 0 0 → σ 8 = I i →
    (∀ σ', f.c.drop i = g.c.drop i → σ' 0 = σ 0 → σ' 1 = σ 1 → σ' 5 = σ 5 → Q (K (.exit 2, ⟨σ', H, 74⟩))) → (∀ σ', f.c.drop i ≠ g.c.drop i → σ' 4 = .bool false → Q (K (.ret, ⟨σ', H, 74⟩))) →
    Q ((W Tryz.prog cfg (.loop (loopAt Tryz.f42 10)) ⟨σ, H, 74⟩).bind K) := by
  intro m
  induction m with
  | zero =>
    intro i σ hi s6 s7 s8 hK hR
    have hfl : (f.code.getD []).length = f.c.length := rfl
    have h0 : decide (i < f.c.length) = false := df (by omega)
    rw [Wloop]
    conv => arg 1; arg 1; arg 1; simp [loopAt, loopIn, headId, Tryz.f42, s6, s8, ga, hfl, h0, -getElem?_pos]
    exact hK _ (by rw [List.drop_eq_nil_of_le (by omega), List.drop_eq_nil_of_le (by omega)]) (by simp) (by simp) (by simp)
  | succ m ih =>
    intro i σ hi s6 s7 s8 hK hR
    have hfl : (f.code.getD []).length = f.c.length := rfl
    have hgl : (g.code.getD []).length = g.c.length := rfl
    have ha : i < f.c.length := by omega
    have hb : i < g.c.length := by omega
    have hlt : decide (i < f.c.length) = true := dt ha
    have xa : idxD f.c.length (I i) = some i := idxD_nat .i64 ha
    have xb : idxD g.c.length (I i) = some i := idxD_nat .i64 hb
    have ea : (f.code.getD [])[i]? = some f.c[i] := List.getElem?_eq_getElem ha
    have eb : (g.code.getD [])[i]? = some g.c[i] := List.getElem?_eq_getElem hb
    have hw : IntKind.i64.wrap ((i : Int) + 1) = ((i + 1 : Nat) : Int) := wr (by omega) (by omega)
    have hq := fun s t => neq_ins s t f.c[i] g.c[i]
    have e0 := drop_eq_iff ha hb
    have hd := dr42_12
    simp [opsAt, opsIn, Tryz.f42] at hd
    have w1 := Wdraw0 hd
    clear hd
    cases k : decide (f.c[i] = g.c[i])
    · simp only [k] at hq
      have hne : f.c.drop i ≠ g.c.drop i := fun h => (of_decide_eq_false k) (e0.1 h).1
      generalize f.c[i] = u at *
      generalize g.c[i] = v at *
      rw [Wloop]
      conv => arg 1; arg 1; arg 1; simp [loopAt, loopIn, headId, Tryz.f42, s6, s7, s8, ga, gb, hfl, hgl, hlt, xa, xb, ea, eb, hq, w1, -getElem?_pos]
      exact hR _ hne (by simp)
    · have e := of_decide_eq_true k
      simp only [k] at hq
      have hK' : ∀ σ', f.c.drop (i + 1) = g.c.drop (i + 1) → σ' 0 = σ 0 → σ' 1 = σ 1 → σ' 5 = σ 5 → Q (K (.exit 2, ⟨σ', H, 74⟩)) := fun σ' h => hK σ' (e0.2 ⟨e, h⟩)
      have hR' : ∀ σ', f.c.drop (i + 1) ≠ g.c.drop (i + 1) → σ' 4 = .bool false → Q (K (.ret, ⟨σ', H, 74⟩)) := fun σ' h => hR σ' (fun h2 => h (e0.1 h2).2)
      clear hK hR e0
      generalize f.c[i] = u at *
      generalize g.c[i] = v at *
      rw [Wloop]
      conv => arg 1; arg 1; arg 1; simp [loopAt, loopIn, headId, Tryz.f42, s6, s7, s8, ga, gb, hfl, hgl, hlt, xa, xb, ea, eb, hq, hw, w1, -getElem?_pos]
      rw [Option.bind_some, loopK_normal]
      exact ih (i + 1) _ (by omega) (by simp [s6]) (by simp [s7]) (by simp) (fun σ' h t0 t1 t5 => hK' σ' h (by rw [t0]; simp) (by rw [t1]; simp) (by rw [t5]; simp)) (fun σ' h t4 => hR' σ' h t4)
theorem bq_insW (x : Instr) : beq (encInstr x) (encInstr x) = true := by simp
theorem bqs_insW : ∀ l : List Instr, beqs (l.map encInstr) (l.map encInstr) = true
  | [] => by simp
  | x :: l => by
    rw [List.map_cons, show beqs (encInstr x :: l.map encInstr) (encInstr x :: l.map encInstr) = (beq (encInstr x) (encInstr x) && beqs (l.map encInstr) (l.map encInstr)) by simp only [beqs], bq_insW x, bqs_insW l]; rfl
theorem bq_codeW (b : Option (List Instr)) : beq (encL 3 encInstr b) (encL 3 encInstr b) = true := by
  cases b with
  | none => simp [encL]
  | some l => simp [encL, bqs_insW l]
set_option maxHeartbeats 2000000 in
theorem rsame7_loop (a b : Option (List Fu)) (hlen : (a.getD []).length = (b.getD []).length) (hs : (a.getD []).length < 2 ^ 62) (hA : ∀ c ∈ a.getD [], okFu c) {X : Type} (K : Ex × St → Option X) (Q : Option X → Prop) : ∀ (m i : Nat) (σ : Nat → D) (H : List Ob), i + m = (a.getD []).length →
    σ 0 = encL 4 encFunc a → σ 1 = encL 4 encFunc b → σ 5 = I i →
    (∀ σ' H', ((a.getD []).drop i).map funcK = ((b.getD []).drop i).map funcK → Q (K (.exit 0, ⟨σ', H', 74⟩))) → (∀ σ' H', ((a.getD []).drop i).map funcK ≠ ((b.getD []).drop i).map funcK → σ' 4 = .bool false → Q (K (.ret, ⟨σ', H', 74⟩))) →
    Q ((W Tryz.prog cfg (.loop (loopAt Tryz.f42 4)) ⟨σ, H, 74⟩).bind K) := by
  intro m
  induction m with
  | zero =>
    intro i σ H hi s0 s1 s5 hK hR
    have h0 : decide (i < (a.getD []).length) = false := df (by omega)
    rw [Wloop]
    conv => arg 1; arg 1; arg 1; simp [loopAt, loopIn, headId, Tryz.f42, s0, s5, h0]
    exact hK _ _ (by rw [List.drop_eq_nil_of_le (by omega), List.drop_eq_nil_of_le (by omega)])
  | succ m ih =>
    intro i σ H hi s0 s1 s5 hK hR
    have ha : i < (a.getD []).length := by omega
    have hb : i < (b.getD []).length := by omega
    have hlt : decide (i < (a.getD []).length) = true := dt ha
    have xa := idxD_nat .i64 ha; have xb := idxD_nat .i64 hb
    have ga : (a.getD [])[i]? = some (a.getD [])[i] := List.getElem?_eq_getElem ha
    have gb : (b.getD [])[i]? = some (b.getD [])[i] := List.getElem?_eq_getElem hb
    have hw : IntKind.i64.wrap ((i : Int) + 1) = ((i + 1 : Nat) : Int) := wr (by omega) (by omega)
    have okf := hA _ (List.getElem_mem ha)
    have e0 : ((a.getD []).drop i).map funcK = funcK (a.getD [])[i] :: ((a.getD []).drop (i + 1)).map funcK := by rw [List.drop_eq_getElem_cons ha, List.map_cons]
    have e1 : ((b.getD []).drop i).map funcK = funcK (b.getD [])[i] :: ((b.getD []).drop (i + 1)).map funcK := by rw [List.drop_eq_getElem_cons hb, List.map_cons]
    rw [e0, e1] at hK hR
    clear e0 e1
    have hd := dr42_6
    simp [opsAt, opsIn, Tryz.f42] at hd
    have w1 := Wdraw hd
    clear hd
    generalize (a.getD [])[i] = f at *
    generalize (b.getD [])[i] = g at *
    have q0 : ∀ o o' : Ob, (H ++ [o, o'])[H.length]? = some o := fun o o' => by simp
    have q1 : ∀ o o' : Ob, (H ++ [o, o'])[H.length + 1]? = some o' := fun o o' => by simp
    have s0' : ∀ o o' p : Ob, (H ++ [o, o']).set H.length p = H ++ [p, o'] := fun o o' p => by simp
    have s1' : ∀ o o' p : Ob, (H ++ [o, o']).set (H.length + 1) p = H ++ [o, p] := fun o o' p => by simp
    have ap : ∀ o o' : Ob, H ++ [o] ++ [o'] = H ++ [o, o'] := fun o o' => by simp
    have bqf : ∀ b : Option (List Instr), beq (encL 3 encInstr b) (encL 3 encInstr b) = true := bq_codeW
    have hfl : (f.code.getD []).length = f.c.length := rfl
    have hgl : (g.code.getD []).length = g.c.length := rfl
    have no : funcK f ≠ funcK g → ∀ σ' H', σ' 4 = .bool false → Q (K (.ret, ⟨σ', H', 74⟩)) := fun h σ' H' t4 => hR σ' H' (fun e => h (List.cons.inj e).1) t4
    cases k1 : decide (f.arity = g.arity)
    · rw [Wloop]
      conv => arg 1; arg 1; arg 1; simp [loopAt, loopIn, headId, Tryz.f42, s0, s1, s5, hlt, xa, xb, ga, gb, q0, q1, s0', s1', ap, k1, w1, logL, loud, isE, drawChk, bqf, -getElem?_pos]
      exact no (fun e => (of_decide_eq_false k1) (congrArg (fun t => t.1) e)) _ _ (by simp)
    cases k2 : decide (f.locals = g.locals)
    · rw [Wloop]
      conv => arg 1; arg 1; arg 1; simp [loopAt, loopIn, headId, Tryz.f42, s0, s1, s5, hlt, xa, xb, ga, gb, q0, q1, s0', s1', ap, k1, k2, w1, logL, loud, isE, drawChk, bqf, -getElem?_pos]
      exact no (fun e => (of_decide_eq_false k2) (congrArg (fun t => t.2.1) e)) _ _ (by simp)
    cases k3 : decide (f.slots = g.slots)
    · rw [Wloop]
      conv => arg 1; arg 1; arg 1; simp [loopAt, loopIn, headId, Tryz.f42, s0, s1, s5, hlt, xa, xb, ga, gb, q0, q1, s0', s1', ap, k1, k2, k3, w1, logL, loud, isE, drawChk, bqf, -getElem?_pos]
      exact no (fun e => (of_decide_eq_false k3) (congrArg (fun t => t.2.2.1) e)) _ _ (by simp)
    cases k4 : decide (f.c.length = g.c.length)
    · have k4' : decide ((f.c.length : Int) = (g.c.length : Int)) = false := df (by have := of_decide_eq_false k4; omega)
      rw [Wloop]
      conv => arg 1; arg 1; arg 1; simp [loopAt, loopIn, headId, Tryz.f42, s0, s1, s5, hlt, xa, xb, ga, gb, q0, q1, s0', s1', ap, hfl, hgl, k1, k2, k3, k4, k4', w1, logL, loud, isE, drawChk, bqf, -getElem?_pos]
      exact no (fun e => (of_decide_eq_false k4) (congrArg (fun t => t.2.2.2.length) e)) _ _ (by simp)
    have k4' : decide ((f.c.length : Int) = (g.c.length : Int)) = true := dt (by have := of_decide_eq_true k4; omega)
    rw [Wloop]
    conv => arg 1; arg 1; arg 1; simp [loopAt, loopIn, headId, Tryz.f42, s0, s1, s5, hlt, xa, xb, ga, gb, q0, q1, s0', s1', ap, hfl, hgl, k1, k2, k3, k4, k4', w1, logL, loud, isE, drawChk, bqf, Option.bind_assoc, -getElem?_pos]
    simp only [Option.bind_assoc]
    refine code_in f g (of_decide_eq_true k4) okf _ H.length (H.length + 1) (q0 _ _) (q1 _ _) _ Q f.c.length 0 _ (by omega) (by simp) (by simp) (by simp) ?_ ?_
    · intro σ' hc t0 t1 t5
      simp only [List.drop_zero] at hc
      have e : funcK f = funcK g := by
        unfold funcK
        rw [of_decide_eq_true k1, of_decide_eq_true k2, of_decide_eq_true k3, hc]
      simp [s0, s1, s5] at t0 t1 t5
      simp [t0, t1, t5, hw]
      exact ih (i + 1) _ _ (by omega) (by simp [t0]) (by simp [t1]) (by simp) (fun σ' H' h => hK σ' H' (by rw [e, h])) (fun σ' H' h t4 => hR σ' H' (fun e2 => h (List.cons.inj e2).2) t4)
    · intro σ' hc t4
      simp only [List.drop_zero] at hc
      simp [t4]
      exact no (fun e => hc (congrArg (fun t => t.2.2.2) e)) _ _ (by simp [t4])
theorem rsame7_spec (a b : Option (List Fu)) (hs : (a.getD []).length < 2 ^ 62) (hA : ∀ c ∈ a.getD [], okFu c) : fnc Tryz.prog cfg R 42 [encProg a, encProg b] = some (.bool (decide ((a.getD []).map funcK = (b.getD []).map funcK))) := by
  rw [fnc_at rfl, body_eq Tryz.func42 rfl rfl]
  cases k : decide ((a.getD []).length = (b.getD []).length)
  · have e : decide ((a.getD []).map funcK = (b.getD []).map funcK) = false := df (fun h => (of_decide_eq_false k) (by have := congrArg List.length h; simpa using this))
    rw [e]
    have k' : decide (((a.getD []).length : Int) = ((b.getD []).length : Int)) = false := df (by have := of_decide_eq_false k; omega)
    simp [argsσ, Vm.results, k, k']
  · have hl := of_decide_eq_true k
    have k' : decide (((a.getD []).length : Int) = ((b.getD []).length : Int)) = true := dt (by omega)
    simp [argsσ, k, k', Option.bind_assoc]
    refine rsame7_loop a b hl hs hA _ (fun o => o = some _) (a.getD []).length 0 _ _ (by omega) (by simp [argsσ]) (by simp [argsσ]) (by simp) ?_ ?_
    · intro σ' H' h
      simp only [List.drop_zero] at h
      simp [Vm.results, h]
    · intro σ' H' h t4
      simp only [List.drop_zero] at h
      simp [Vm.results, t4, h]
end Go.Proofs.YtifmjomfoilnnaaGreatW.Rg
