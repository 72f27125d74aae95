/- Equal pens, small pens. No conditions. -/
import Derived.Test.YtifmjomfoilnnaaGreatVmXB
set_option linter.unusedVariables false
set_option linter.unusedSimpArgs false
set_option maxRecDepth 10000
namespace Go.Proofs.YtifmjomfoilnnaaGreatW.Rg
open Go.Proofs.YtifmjomfoilnnaaGreatW.Vm Go.Proofs.YtifmjomfoilnnaaGreatW.Md
open Go Go.Proofs
/-- a cell whose lists are no longer than can be counted -/
def okC (c : Ce) : Prop := c.x.f.stack.length < 2 ^ 62 ∧ c.x.f.locals.length < 2 ^ 62 ∧ c.x.f.slots.length < 2 ^ 62
theorem eqb_any (s t : Operand) (x y : Bool) : binD Tryz.prog .eql 4 s t (.bool x) (.bool y) = some (.bool (decide (x = y))) := by
  cases x <;> cases y <;> kernel_rfl
theorem neqb_any (s t : Operand) (x y : Bool) : binD Tryz.prog .neq 4 s t (.bool x) (.bool y) = some (.bool (!decide (x = y))) := by
  cases x <;> cases y <;> kernel_rfl
theorem cellEq (c d : Ce) : decide (cellK c = cellK d) = (decide (c.gen = d.gen) && decide (c.used = d.used) && decide (c.x.f = d.x.f)) := by
  unfold cellK
  rw [Bool.eq_iff_iff]
  simp only [Bool.and_eq_true, decide_eq_true_eq, Prod.mk.injEq, and_assoc]
theorem xsame_spec (x y : Fx) (h : x.f.stack.length < 2 ^ 62 ∧ x.f.locals.length < 2 ^ 62 ∧ x.f.slots.length < 2 ^ 62) : fnc Tryz.prog cfg R 81 [encX x, encX y] = some (.bool (decide (x.f = y.f))) :=
  same_spec x.f y.f x.a x.b y.a y.b x.z y.z x.ha x.hb x.hz y.ha y.hb y.hz h.1 h.2.1 h.2.2
theorem rxsame_spec (x y : Fx) (h : x.f.stack.length < 2 ^ 62 ∧ x.f.locals.length < 2 ^ 62 ∧ x.f.slots.length < 2 ^ 62) : fnc Tryz.prog cfg R 27 [encX x, encX y] = some (.bool (decide (x.f = y.f))) :=
  rsame_spec x.f y.f x.a x.b y.a y.b x.z y.z x.ha x.hb x.hz y.ha y.hb y.hz h.1 h.2.1 h.2.2
theorem xsmall_spec (x : Fx) : fnc Tryz.prog cfg R 58 [encX x] = some (.bool (smallF x.f)) := smallF_spec x.f x.a x.b x.z x.ha x.hb x.hz
theorem psame1_spec (c d : Ce) (h : okC c) : fnc Tryz.prog cfg R 80 [encCe c, encCe d] = some (.bool (decide (cellK c = cellK d))) := by
  have hx := xsame_spec c.x d.x h
  have exv : ∀ (h : List Ob) (b : Option (List Vl)), exp1 h (encL 2 encV b) = some (encL 2 encV b) := fun h z => exp_clean (by simp) (by simp)
  have exz : ∀ (h : List Ob) (b : Option (List Slt)), exp1 h (encL 6 encSlt b) = some (encL 6 encSlt b) := fun h z => exp_clean (by simp) (by simp)
  rw [cellEq, fnc_at rfl, body_eq Tryz.func80 rfl rfl]
  cases k1 : decide (c.gen = d.gen)
  · simp [argsσ, Vm.results, k1]
  have hb := fun s t => eqb_any s t c.used d.used
  cases k2 : decide (c.used = d.used)
  · rw [k2] at hb
    simp [argsσ, Vm.results, k1, hb]
  · rw [k2] at hb
    simp [argsσ, Vm.results, k1, hb, hx, exv, exz]
theorem eqF_loop (a b : Option (List Ce)) (hlen : (a.getD []).length = (b.getD []).length) (hs : (a.getD []).length < 2 ^ 62) (hA : ∀ c ∈ a.getD [], okC c) {X : Type} (K : Ex × St → Option X) (Q : Option X → Prop) : ∀ (m i : Nat) (σ : Nat → D) (H : List Ob), i + m = (a.getD []).length →
    σ 1 = encL 18 encCe b → σ 2 = .clo (.func 80) [] [] → σ 15 = encL 18 encCe a → σ 16 = I (a.getD []).length → σ 17 = I i →
    (∀ σ' H', ((a.getD []).drop i).map cellK = ((b.getD []).drop i).map cellK → Q (K (.exit 0, ⟨σ', H', 32⟩))) → (∀ σ' H', ((a.getD []).drop i).map cellK ≠ ((b.getD []).drop i).map cellK → σ' 6 = .bool false → Q (K (.ret, ⟨σ', H', 32⟩))) →
    Q ((W Tryz.prog cfg (.loop (loopAt Tryz.f79 4)) ⟨σ, H, 32⟩).bind K) := by
  intro m
  induction m with
  | zero =>
    intro i σ H hi s1 s2 s15 s16 s17 hK hR
    have h0 : ¬ (i < (a.getD []).length) := by omega
    rw [Wloop]
    conv => arg 1; arg 1; arg 1; simp [loopAt, loopIn, headId, Tryz.f79, s1, s2, s15, s16, s17, h0]
    exact hK _ _ (by rw [List.drop_eq_nil_of_le (by omega), List.drop_eq_nil_of_le (by omega)])
  | succ m ih =>
    intro i σ H hi s1 s2 s15 s16 s17 hK hR
    have ha : i < (a.getD []).length := by omega
    have hb : i < (b.getD []).length := by omega
    have hlt : decide (i < (a.getD []).length) = true := dt ha
    have xa := idxD_nat .i64 ha; have xb := idxD_nat .i64 hb
    have ga : (a.getD [])[i]? = some (a.getD [])[i] := List.getElem?_eq_getElem ha
    have gb : (b.getD [])[i]? = some (b.getD [])[i] := List.getElem?_eq_getElem hb
    have hw : IntKind.i64.wrap ((i : Int) + 1) = ((i + 1 : Nat) : Int) := wr (by omega) (by omega)
    have hq := psame1_spec (a.getD [])[i] (b.getD [])[i] (hA _ (List.getElem_mem ha))
    have e0 : ((a.getD []).drop i).map cellK = cellK (a.getD [])[i] :: ((a.getD []).drop (i + 1)).map cellK := by rw [List.drop_eq_getElem_cons ha, List.map_cons]
    have e1 : ((b.getD []).drop i).map cellK = cellK (b.getD [])[i] :: ((b.getD []).drop (i + 1)).map cellK := by rw [List.drop_eq_getElem_cons hb, List.map_cons]
    have ql : ∀ o : Ob, (H ++ [o])[H.length]? = some o := fun o => by simp
    have qs := sgx H
    have q0 : ∀ o o' : Ob, (H ++ [o, o'])[H.length]? = some o := fun o o' => by simp
    have q1 : ∀ o o' : Ob, (H ++ [o, o'])[H.length + 1]? = some o' := fun o o' => by simp
    have s1' : ∀ o o' p : Ob, (H ++ [o, o']).set (H.length + 1) p = H ++ [o, p] := fun o o' p => by simp
    have exv : ∀ (h : List Ob) (b : Option (List Vl)), exp1 h (encL 2 encV b) = some (encL 2 encV b) := fun h z => exp_clean (by simp) (by simp)
    have exz : ∀ (h : List Ob) (b : Option (List Slt)), exp1 h (encL 6 encSlt b) = some (encL 6 encSlt b) := fun h z => exp_clean (by simp) (by simp)
    cases k : decide (cellK (a.getD [])[i] = cellK (b.getD [])[i])
    · rw [k] at hq
      have hne : ((a.getD []).drop i).map cellK ≠ ((b.getD []).drop i).map cellK := fun h => by rw [e0, e1] at h; exact (of_decide_eq_false k) (List.cons.inj h).1
      generalize (a.getD [])[i] = u at *
      generalize (b.getD [])[i] = v at *
      rw [Wloop]
      conv => arg 1; arg 1; arg 1; simp [loopAt, loopIn, headId, Tryz.f79, s1, s2, s15, s16, s17, hlt, xa, xb, ga, gb, hq, ql, qs, q0, q1, s1', exv, exz, -getElem?_pos]
      exact hR _ _ hne (by simp)
    · have e := of_decide_eq_true k
      rw [k] at hq
      have hK' : ∀ σ' H', ((a.getD []).drop (i + 1)).map cellK = ((b.getD []).drop (i + 1)).map cellK → Q (K (.exit 0, ⟨σ', H', 32⟩)) := fun σ' H' h => hK σ' H' (by rw [e0, e1, e, h])
      have hR' : ∀ σ' H', ((a.getD []).drop (i + 1)).map cellK ≠ ((b.getD []).drop (i + 1)).map cellK → σ' 6 = .bool false → Q (K (.ret, ⟨σ', H', 32⟩)) := fun σ' H' h => hR σ' H' (fun h2 => by rw [e0, e1] at h2; exact h (List.cons.inj h2).2)
      clear hK hR e0 e1
      generalize (a.getD [])[i] = u at *
      generalize (b.getD [])[i] = v at *
      rw [Wloop]
      conv => arg 1; arg 1; arg 1; simp [loopAt, loopIn, headId, Tryz.f79, s1, s2, s15, s16, s17, hlt, xa, xb, ga, gb, hq, hw, ql, qs, q0, q1, s1', exv, exz, -getElem?_pos]
      rw [Option.bind_some, loopK_normal]
      exact ih (i + 1) _ _ (by omega) (by simp [s1]) (by simp [s2]) (by simp [s15]) (by simp [s16]) (by simp) hK' hR'
theorem eqF_spec (a b : Option (List Ce)) (hs : (a.getD []).length < 2 ^ 62) (hA : ∀ c ∈ a.getD [], okC c) : fnc Tryz.prog cfg R 79 [encL 18 encCe a, encL 18 encCe b, .clo (.func 80) [] []] = some (.bool (decide ((a.getD []).map cellK = (b.getD []).map cellK))) := by
  rw [fnc_at rfl, body_eq Tryz.func79 rfl rfl]
  cases k : decide ((a.getD []).length = (b.getD []).length)
  · have e : decide ((a.getD []).map cellK = (b.getD []).map cellK) = false := df (fun h => (of_decide_eq_false k) (by have := congrArg List.length h; simpa using this))
    rw [e]
    have k' : decide (((a.getD []).length : Int) = ((b.getD []).length : Int)) = false := df (by have := of_decide_eq_false k; omega)
    simp [argsσ, Vm.results, k, k']
  · have hl := of_decide_eq_true k
    have k' : decide (((a.getD []).length : Int) = ((b.getD []).length : Int)) = true := dt (by omega)
    simp [argsσ, k, k', Option.bind_assoc]
    refine eqF_loop a b hl hs hA _ (fun o => o = some _) (a.getD []).length 0 _ _ (by omega) (by simp [argsσ]) (by simp [argsσ]) (by simp [argsσ]) (by simp) (by simp) ?_ ?_
    · intro σ' H' h
      simp only [List.drop_zero] at h
      have e : decide ((a.getD []).map cellK = (b.getD []).map cellK) = true := dt h
      simp [Vm.results, e, h]
    · intro σ' H' h t4
      simp only [List.drop_zero] at h
      simp [Vm.results, t4, h]
theorem psame_spec (ca cb : Option (List Ce)) (fa fb : Option (List Int)) (ma mb : Int) (hs : (ca.getD []).length < 2 ^ 62) (hf : (fa.getD []).length < 2 ^ 62) (hA : ∀ c ∈ ca.getD [], okC c) : fnc Tryz.prog cfg R 47 [pnC (encL 18 encCe ca) (encL 1 I fa) ma, pnC (encL 18 encCe cb) (encL 1 I fb) mb] = some (.bool (samePn ⟨ca.getD [], fa.getD [], ma⟩ ⟨cb.getD [], fb.getD [], mb⟩)) := by
  have e1 := eqI_spec fa fb hf
  have e2 := eqF_spec ca cb hs hA
  have exc : ∀ (h : List Ob) (b : Option (List Ce)), exp1 h (encL 18 encCe b) = some (encL 18 encCe b) := fun h z => exp_clean (by simp) (by simp)
  have exi : ∀ (h : List Ob) (b : Option (List Int)), exp1 h (encL 1 I b) = some (encL 1 I b) := fun h z => exp_clean (by simp) (by simp)
  unfold samePn
  simp only
  rw [fnc_at rfl, body_eq Tryz.func47 rfl rfl]
  cases k1 : decide (ma = mb)
  · simp [argsσ, Vm.results, k1]
  cases k2 : decide (fa.getD [] = fb.getD [])
  · rw [k2] at e1
    simp [argsσ, Vm.results, k1, e1, k2, exi]
  rw [k2] at e1
  generalize decide ((ca.getD []).map cellK = (cb.getD []).map cellK) = B at *
  simp [argsσ, Vm.results, k1, e1, k2, e2, exi, exc]
theorem rsame12_loop (ca cb : Option (List Ce)) (fa fb : Option (List Int)) (ma mb : Int) (hlen : (ca.getD []).length = (cb.getD []).length) (hs : (ca.getD []).length < 2 ^ 62) (hA : ∀ c ∈ ca.getD [], okC c) {X : Type} (K : Ex × St → Option X) (Q : Option X → Prop) : ∀ (m i : Nat) (σ : Nat → D) (H : List Ob), i + m = (ca.getD []).length →
    σ 2 = .ptr 0 0 0 0 → σ 3 = .ptr 1 0 0 0 → σ 5 = I i → 2 ≤ H.length → H[0]? = some ⟨0, 3, [pnC (encL 18 encCe ca) (encL 1 I fa) ma], 0⟩ → H[1]? = some ⟨0, 3, [pnC (encL 18 encCe cb) (encL 1 I fb) mb], 0⟩ →
    (∀ σ' H', ((ca.getD []).drop i).map cellK = ((cb.getD []).drop i).map cellK → Q (K (.exit 0, ⟨σ', H', 67⟩))) → (∀ σ' H', ((ca.getD []).drop i).map cellK ≠ ((cb.getD []).drop i).map cellK → σ' 4 = .bool false → Q (K (.ret, ⟨σ', H', 67⟩))) →
    Q ((W Tryz.prog cfg (.loop (loopAt Tryz.f43 4)) ⟨σ, H, 67⟩).bind K) := by
  intro m
  induction m with
  | zero =>
    intro i σ H hi s2 s3 s5 hH g0 g1 hK hR
    have h0 : decide (i < (ca.getD []).length) = false := df (by omega)
    rw [Wloop]
    conv => arg 1; arg 1; arg 1; simp [loopAt, loopIn, headId, Tryz.f43, s2, s3, s5, g0, g1, h0, -getElem?_pos]
    exact hK _ _ (by rw [List.drop_eq_nil_of_le (by omega), List.drop_eq_nil_of_le (by omega)])
  | succ m ih =>
    intro i σ H hi s2 s3 s5 hH g0 g1 hK hR
    have ha : i < (ca.getD []).length := by omega
    have hb : i < (cb.getD []).length := by omega
    have hlt : decide (i < (ca.getD []).length) = true := dt ha
    have xa := idxD_nat .i64 ha; have xb := idxD_nat .i64 hb
    have ga : (ca.getD [])[i]? = some (ca.getD [])[i] := List.getElem?_eq_getElem ha
    have gb : (cb.getD [])[i]? = some (cb.getD [])[i] := List.getElem?_eq_getElem hb
    have hw : IntKind.i64.wrap ((i : Int) + 1) = ((i + 1 : Nat) : Int) := wr (by omega) (by omega)
    have hq := rxsame_spec (ca.getD [])[i].x (cb.getD [])[i].x (hA _ (List.getElem_mem ha))
    have e0 : ((ca.getD []).drop i).map cellK = cellK (ca.getD [])[i] :: ((ca.getD []).drop (i + 1)).map cellK := by rw [List.drop_eq_getElem_cons ha, List.map_cons]
    have e1 : ((cb.getD []).drop i).map cellK = cellK (cb.getD [])[i] :: ((cb.getD []).drop (i + 1)).map cellK := by rw [List.drop_eq_getElem_cons hb, List.map_cons]
    have hce := cellEq (ca.getD [])[i] (cb.getD [])[i]
    have hd := dr43_6
    simp [opsAt, opsIn, Tryz.f43] at hd
    have hdw := Wdraw hd
    clear hd
    have q0 : ∀ o o' : Ob, (H ++ [o, o'])[H.length]? = some o := fun o o' => by simp
    have q1 : ∀ o o' : Ob, (H ++ [o, o'])[H.length + 1]? = some o' := fun o o' => by simp
    have s0' : ∀ o o' p : Ob, (H ++ [o, o']).set H.length p = H ++ [p, o'] := fun o o' p => by simp
    have s1' : ∀ o o' p : Ob, (H ++ [o, o']).set (H.length + 1) p = H ++ [o, p] := fun o o' p => by simp
    have bqc : ∀ b : Option (List Ce), beq (encL 18 encCe b) (encL 18 encCe b) = true := fun b => by cases b <;> simp [encL, bq_cells]
    have ap : ∀ o o' : Ob, H ++ [o] ++ [o'] = H ++ [o, o'] := fun o o' => by simp
    have p0 : ∀ t : List Ob, (H ++ t)[0]? = some ⟨0, 3, [pnC (encL 18 encCe ca) (encL 1 I fa) ma], 0⟩ := fun t => by rw [List.getElem?_append_left (by omega), g0]
    have p1 : ∀ t : List Ob, (H ++ t)[1]? = some ⟨0, 3, [pnC (encL 18 encCe cb) (encL 1 I fb) mb], 0⟩ := fun t => by rw [List.getElem?_append_left (by omega), g1]
    have exv : ∀ (h : List Ob) (b : Option (List Vl)), exp1 h (encL 2 encV b) = some (encL 2 encV b) := fun h z => exp_clean (by simp) (by simp)
    have exz : ∀ (h : List Ob) (b : Option (List Slt)), exp1 h (encL 6 encSlt b) = some (encL 6 encSlt b) := fun h z => exp_clean (by simp) (by simp)
    cases k : decide (cellK (ca.getD [])[i] = cellK (cb.getD [])[i])
    · have hne : ((ca.getD []).drop i).map cellK ≠ ((cb.getD []).drop i).map cellK := fun h => by rw [e0, e1] at h; exact (of_decide_eq_false k) (List.cons.inj h).1
      rw [k] at hce
      clear e0 e1
      generalize (ca.getD [])[i] = u at *
      generalize (cb.getD [])[i] = v at *
      cases k1 : decide (u.gen = v.gen)
      · rw [Wloop]
        conv => arg 1; arg 1; arg 1; simp [loopAt, loopIn, headId, Tryz.f43, s2, s3, s5, g0, g1, hlt, xa, xb, ga, gb, hdw, q0, q1, s0', s1', ap, p0, p1, k1, exv, exz, bqc, bq_cell, logL, loud, isE, drawChk, -getElem?_pos]
        exact hR _ _ hne (by simp)
      rw [k1] at hce
      have hb := fun s t => neqb_any s t u.used v.used
      cases k2 : decide (u.used = v.used)
      · rw [k2] at hb
        rw [Wloop]
        conv => arg 1; arg 1; arg 1; simp [loopAt, loopIn, headId, Tryz.f43, s2, s3, s5, g0, g1, hlt, xa, xb, ga, gb, hdw, q0, q1, s0', s1', ap, p0, p1, k1, hb, exv, exz, bqc, bq_cell, logL, loud, isE, drawChk, -getElem?_pos]
        exact hR _ _ hne (by simp)
      rw [k2] at hce hb
      have k3 : decide (u.x.f = v.x.f) = false := by simpa using hce.symm
      rw [k3] at hq
      rw [Wloop]
      conv => arg 1; arg 1; arg 1; simp [loopAt, loopIn, headId, Tryz.f43, s2, s3, s5, g0, g1, hlt, xa, xb, ga, gb, hdw, q0, q1, s0', s1', ap, p0, p1, k1, hb, hq, exv, exz, bqc, bq_cell, logL, loud, isE, drawChk, -getElem?_pos]
      exact hR _ _ hne (by simp)
    · have e := of_decide_eq_true k
      have hK' : ∀ σ' H', ((ca.getD []).drop (i + 1)).map cellK = ((cb.getD []).drop (i + 1)).map cellK → Q (K (.exit 0, ⟨σ', H', 67⟩)) := fun σ' H' h => hK σ' H' (by rw [e0, e1, e, h])
      have hR' : ∀ σ' H', ((ca.getD []).drop (i + 1)).map cellK ≠ ((cb.getD []).drop (i + 1)).map cellK → σ' 4 = .bool false → Q (K (.ret, ⟨σ', H', 67⟩)) := fun σ' H' h => hR σ' H' (fun h2 => by rw [e0, e1] at h2; exact h (List.cons.inj h2).2)
      rw [k] at hce
      clear hK hR e0 e1
      generalize (ca.getD [])[i] = u at *
      generalize (cb.getD [])[i] = v at *
      have hce := hce.symm
      simp only [Bool.and_eq_true] at hce
      obtain ⟨⟨k1, k2⟩, k3⟩ := hce
      have hb := fun s t => neqb_any s t u.used v.used
      rw [k2] at hb
      rw [k3] at hq
      rw [Wloop]
      conv => arg 1; arg 1; arg 1; simp [loopAt, loopIn, headId, Tryz.f43, s2, s3, s5, g0, g1, hlt, xa, xb, ga, gb, hdw, q0, q1, s0', s1', ap, p0, p1, k1, hb, hq, hw, exv, exz, bqc, bq_cell, logL, loud, isE, drawChk, -getElem?_pos]
      rw [Option.bind_some, loopK_normal]
      exact ih (i + 1) _ _ (by omega) (by simp [s2]) (by simp [s3]) (by simp) (by simp) (p0 _) (p1 _) hK' hR'
theorem rpsame_spec (ca cb : Option (List Ce)) (fa fb : Option (List Int)) (ma mb : Int) (hs : (ca.getD []).length < 2 ^ 62) (hf : (fa.getD []).length < 2 ^ 62) (hA : ∀ c ∈ ca.getD [], okC c) : fnc Tryz.prog cfg R 43 [pnC (encL 18 encCe ca) (encL 1 I fa) ma, pnC (encL 18 encCe cb) (encL 1 I fb) mb] = some (.bool (samePn ⟨ca.getD [], fa.getD [], ma⟩ ⟨cb.getD [], fb.getD [], mb⟩)) := by
  have e1 := rints_spec fa fb hf
  have exc : ∀ (h : List Ob) (b : Option (List Ce)), exp1 h (encL 18 encCe b) = some (encL 18 encCe b) := fun h z => exp_clean (by simp) (by simp)
  have exi : ∀ (h : List Ob) (b : Option (List Int)), exp1 h (encL 1 I b) = some (encL 1 I b) := fun h z => exp_clean (by simp) (by simp)
  unfold samePn
  simp only
  rw [fnc_at rfl, body_eq Tryz.func43 rfl rfl]
  cases k1 : decide (ma = mb)
  · simp [argsσ, Vm.results, k1]
  cases k : decide ((ca.getD []).length = (cb.getD []).length)
  · have e : decide ((ca.getD []).map cellK = (cb.getD []).map cellK) = false := df (fun h => (of_decide_eq_false k) (by have := congrArg List.length h; simpa using this))
    rw [e]
    have k' : decide (((ca.getD []).length : Int) = ((cb.getD []).length : Int)) = false := df (by have := of_decide_eq_false k; omega)
    simp [argsσ, Vm.results, k, k', k1]
  have hl := of_decide_eq_true k
  have k' : decide (((ca.getD []).length : Int) = ((cb.getD []).length : Int)) = true := dt (by omega)
  cases k2 : decide (fa.getD [] = fb.getD [])
  · rw [k2] at e1
    simp [argsσ, Vm.results, k1, k, k', e1, k2, exi]
  rw [k2] at e1
  simp [argsσ, k1, k, k', e1, k2, exi, exc, Option.bind_assoc]
  refine rsame12_loop ca cb fa fb ma mb hl hs hA _ (fun o => o = some _) (ca.getD []).length 0 _ _ (by omega) (by simp [argsσ]) (by simp [argsσ]) (by simp) (by simp) (by simp) (by simp) ?_ ?_
  · intro σ' H' h
    simp only [List.drop_zero] at h
    simp [Vm.results, h]
  · intro σ' H' h t4
    simp only [List.drop_zero] at h
    simp [Vm.results, t4, h]
def smallCs (l : List Ce) : Bool := l.all fun c => smallF c.x.f
def smallPn (p : Pn) (n : Int) : Bool := decide ((p.cells.length : Int) ≤ n) && decide ((p.free.length : Int) ≤ n) && smallCs p.cells
theorem small12_loop (cs : Option (List Ce)) (fr : Option (List Int)) (m n : Int) (hs : (cs.getD []).length < 2 ^ 62) (hn : decide (((cs.getD []).length : Int) ≤ n) = true) {X : Type} (K : Ex × St → Option X) (Q : Option X → Prop) : ∀ (k i : Nat) (σ : Nat → D), i + k = (cs.getD []).length →
    σ 1 = I n → σ 2 = .ptr 0 0 0 0 → σ 5 = I i →
    (∀ σ', smallCs ((cs.getD []).drop i) = true → σ' 1 = I n → σ' 2 = .ptr 0 0 0 0 → Q (K (.exit 0, ⟨σ', [⟨0, 3, [pnC (encL 18 encCe cs) (encL 1 I fr) m], 0⟩], 40⟩))) → (∀ σ', smallCs ((cs.getD []).drop i) = false → σ' 4 = .bool false → Q (K (.ret, ⟨σ', [⟨0, 3, [pnC (encL 18 encCe cs) (encL 1 I fr) m], 0⟩], 40⟩))) →
    Q ((W Tryz.prog cfg (.loop (loopAt Tryz.f30 2)) ⟨σ, [⟨0, 3, [pnC (encL 18 encCe cs) (encL 1 I fr) m], 0⟩], 40⟩).bind K) := by
  intro k
  induction k with
  | zero =>
    intro i σ hi s1 s2 s5 hK hR
    have h0 : decide (i < (cs.getD []).length) = false := df (by omega)
    rw [Wloop]
    conv => arg 1; arg 1; arg 1; simp [loopAt, loopIn, headId, Tryz.f30, s1, s2, s5, h0, -getElem?_pos]
    exact hK _ (by rw [List.drop_eq_nil_of_le (by omega)]; rfl) (by simp [s1]) (by simp [s2])
  | succ k ih =>
    intro i σ hi s1 s2 s5 hK hR
    have ha : i < (cs.getD []).length := by omega
    have hlt : decide (i < (cs.getD []).length) = true := dt ha
    have xa := idxD_nat .i64 ha
    have ga : (cs.getD [])[i]? = some (cs.getD [])[i] := List.getElem?_eq_getElem ha
    have hw : IntKind.i64.wrap ((i : Int) + 1) = ((i + 1 : Nat) : Int) := wr (by omega) (by omega)
    have hq := xsmall_spec (cs.getD [])[i].x
    have e0 : smallCs ((cs.getD []).drop i) = (smallF (cs.getD [])[i].x.f && smallCs ((cs.getD []).drop (i + 1))) := by rw [List.drop_eq_getElem_cons ha]; rfl
    have exv : ∀ (h : List Ob) (b : Option (List Vl)), exp1 h (encL 2 encV b) = some (encL 2 encV b) := fun h z => exp_clean (by simp) (by simp)
    have exz : ∀ (h : List Ob) (b : Option (List Slt)), exp1 h (encL 6 encSlt b) = some (encL 6 encSlt b) := fun h z => exp_clean (by simp) (by simp)
    rw [e0] at hK hR
    clear e0
    generalize (cs.getD [])[i] = u at *
    cases k1 : smallF u.x.f
    · rw [k1] at hq hK hR
      rw [Wloop]
      conv => arg 1; arg 1; arg 1; simp [loopAt, loopIn, headId, Tryz.f30, s1, s2, s5, hlt, hn, xa, ga, hq, exv, exz, -getElem?_pos]
      exact hR _ rfl (by simp)
    · rw [k1] at hq hK hR
      rw [Wloop]
      conv => arg 1; arg 1; arg 1; simp [loopAt, loopIn, headId, Tryz.f30, s1, s2, s5, hlt, hn, xa, ga, hq, hw, exv, exz, -getElem?_pos]
      rw [Option.bind_some, loopK_normal]
      exact ih (i + 1) _ (by omega) (by simp [s1]) (by simp [s2]) (by simp) (fun σ' h => hK σ' (by rw [h]; rfl)) (fun σ' h => hR σ' (by rw [h]; rfl))
theorem small12_out (cs : Option (List Ce)) (fr : Option (List Int)) (m n : Int) (hn : decide (((cs.getD []).length : Int) ≤ n) = false) {X : Type} (K : Ex × St → Option X) (Q : Option X → Prop) (σ : Nat → D) (s1 : σ 1 = I n) (s2 : σ 2 = .ptr 0 0 0 0) (s5 : σ 5 = I 0)
    (hK : ∀ σ', σ' 1 = I n → σ' 2 = .ptr 0 0 0 0 → Q (K (.exit 0, ⟨σ', [⟨0, 3, [pnC (encL 18 encCe cs) (encL 1 I fr) m], 0⟩], 40⟩))) :
    Q ((W Tryz.prog cfg (.loop (loopAt Tryz.f30 2)) ⟨σ, [⟨0, 3, [pnC (encL 18 encCe cs) (encL 1 I fr) m], 0⟩], 40⟩).bind K) := by
  cases h0 : decide (0 < (cs.getD []).length)
  · rw [Wloop]
    conv => arg 1; arg 1; arg 1; simp [loopAt, loopIn, headId, Tryz.f30, s1, s2, s5, h0, -getElem?_pos]
    exact hK _ (by simp [s1]) (by simp [s2])
  · rw [Wloop]
    conv => arg 1; arg 1; arg 1; simp [loopAt, loopIn, headId, Tryz.f30, s1, s2, s5, h0, hn, -getElem?_pos]
    exact hK _ (by simp [s1]) (by simp [s2])
theorem smallPn_spec (cs : Option (List Ce)) (fr : Option (List Int)) (m n : Int) (hs : (cs.getD []).length < 2 ^ 62) : fnc Tryz.prog cfg R 30 [pnC (encL 18 encCe cs) (encL 1 I fr) m, I n] = some (.bool (smallPn ⟨cs.getD [], fr.getD [], m⟩ n)) := by
  unfold smallPn
  simp only
  rw [fnc_at rfl, body_eq Tryz.func30 rfl rfl]
  cases k0 : decide (((cs.getD []).length : Int) ≤ n)
  · simp [argsσ, Option.bind_assoc]
    refine small12_out cs fr m n k0 _ (fun o => o = some _) _ (by simp [argsσ]) (by simp) (by simp) ?_
    intro σ' t1 t2
    simp [Vm.results, t1, t2, k0]
  · simp [argsσ, Option.bind_assoc]
    refine small12_loop cs fr m n hs k0 _ (fun o => o = some _) (cs.getD []).length 0 _ (by omega) (by simp [argsσ]) (by simp) (by simp) ?_ ?_
    · intro σ' h t1 t2
      simp only [List.drop_zero] at h
      rw [h]
      cases k2 : decide (((fr.getD []).length : Int) ≤ n)
      · simp [Vm.results, t1, t2, k0, k2]
      · simp [Vm.results, t1, t2, k0, k2]
    · intro σ' h t4
      simp only [List.drop_zero] at h
      simp [Vm.results, t4, h]
end Go.Proofs.YtifmjomfoilnnaaGreatW.Rg
