/- PenHolds. No conditions. -/
import Derived.Test.YtopgmnjijioheaaVmLP1
import Derived.Test.YtopgmnjijioheaaVmPM4
set_option linter.unusedVariables false
set_option linter.unusedSimpArgs false
namespace Go.Proofs.YtopgmnjijioheaaW.Rg
open Go.Proofs.YtopgmnjijioheaaW.Vm Go.Proofs.YtopgmnjijioheaaW.Md
open Go Go.Proofs
theorem eq_rf0 (s t : Operand) {x y : Rf} (h : x ≠ y) : binD Try.prog .eql 27 s t (encRf x) (encRf y) = some (.bool false) := by rw [eq_rf, df h]
theorem okX_get {p : Pn} (b : Bp p) {r : Rf} {z : Fx} (h : getPn p r = some z) : okX z := by have := get_x b r; rw [h] at this; exact this
theorem getP {cs : Option (List Ce)} {fr : Option (List Int)} {p : Pn} (h : Rp cs fr p) (b : Bp p) {r : Rf} {z : Fx} (e : getPn p r = some z) : fnc Try.prog cfg R 18 [encP cs fr p, encRf r] = some (.tup [encX z, .bool true]) := by
  have := get_P h b r; rw [e] at this; exact this
theorem getN {cs : Option (List Ce)} {fr : Option (List Int)} {p : Pn} (h : Rp cs fr p) (b : Bp p) {r : Rf} (e : getPn p r = none) : fnc Try.prog cfg R 18 [encP cs fr p, encRf r] = some (.tup [zF, .bool false]) := by
  have := get_P h b r; rw [e] at this; exact this
theorem holds_loop {cs fr} {p : Pn} (h : Rp cs fr p) (b : Bp p) {c4 f4} {d : Pn} (R4 : Rp c4 f4 d) (b4 : Bp d) (r : Rf) (o : Option (List Rf)) (ho : (o.getD []).length ≤ 2 ^ 30) (hq : ∀ q ∈ o.getD [], q ≠ r ∧ ∃ z, getPn p q = some z ∧ getPn d q = some z) (H0 : List Ob)
    (z0 : H0[0]? = some ⟨0, 3, [encP cs fr p], 0⟩) (z7 : H0[7]? = some ⟨0, 3, [encP c4 f4 d], 0⟩) (z4 : H0[4]? = some ⟨0, 2, [encRf r], 0⟩) {X : Type} (K : Ex × St → Option X) (Q : Option X → Prop) : ∀ (rest : List Rf) (i : Nat) (σ : Nat → D) (H : List Ob), (o.getD []).drop i = rest →
    σ 3 = .ptr 0 0 0 0 → σ 7 = encL 2 encRf o → σ 8 = .ptr 3 0 0 0 → σ 9 = .ptr 4 0 0 0 → σ 11 = .ptr 5 0 0 0 → σ 13 = .ptr 6 0 0 0 → σ 15 = .ptr 7 0 0 0 → σ 28 = I i → 14 ≤ H.length → (∀ k, k < 14 → H[k]? = H0[k]?) →
    (∀ σ' H', σ' 3 = .ptr 0 0 0 0 → σ' 7 = encL 2 encRf o → σ' 8 = .ptr 3 0 0 0 → σ' 11 = .ptr 5 0 0 0 → σ' 13 = .ptr 6 0 0 0 → σ' 15 = .ptr 7 0 0 0 → (∀ k, k < 14 → H'[k]? = H0[k]?) → Q (K (.exit 0, ⟨σ', H', 261⟩))) →
    Q ((W Try.prog cfg (.loop (loopAt Try.f4 18)) ⟨σ, H, 261⟩).bind K)
  | [], i, σ, H, hd, s3, s7, s8, s9, s11, s13, s15, s28, hH, gk, hK => by
    have hi : decide (i < (o.getD []).length) = false := df (by have := congrArg List.length hd; simp at this; omega)
    rw [Wloop]
    conv => arg 1; arg 1; arg 1; simp [loopAt, loopIn, headId, Try.f4, s3, s7, s28, hi]
    exact hK _ H (by simp [s3]) (by simp [s7]) (by simp [s8]) (by simp [s11]) (by simp [s13]) (by simp [s15]) gk
  | q :: rest, i, σ, H, hd, s3, s7, s8, s9, s11, s13, s15, s28, hH, gk, hK => by
    obtain ⟨hg1, hd1, hi⟩ := drop_get hd
    have hlt : decide (i < (o.getD []).length) = true := dt hi
    have hx := idxD_nat .i64 hi
    have hw : IntKind.i64.wrap ((i : Int) + 1) = ((i + 1 : Nat) : Int) := wr (by omega) (by omega)
    obtain ⟨hne, z, e1, e2⟩ := hq q (List.mem_of_getElem? hg1)
    have x1 := getP h b e1
    have x2 := getP R4 b4 e2
    have x3 := xsame_P (y := z) (okX_get b e1)
    rw [decide_eq_true (Eq.refl _)] at x3
    have g0 := (gk 0 (by omega)).trans z0
    have g7 := (gk 7 (by omega)).trans z7
    have g4 := (gk 4 (by omega)).trans z4
    have q0 : ∀ t : List Ob, (H ++ t)[0]? = some ⟨0, 3, [encP cs fr p], 0⟩ := fun t => by rw [List.getElem?_append_left (by omega), g0]
    have q7 : ∀ t : List Ob, (H ++ t)[7]? = some ⟨0, 3, [encP c4 f4 d], 0⟩ := fun t => by rw [List.getElem?_append_left (by omega), g7]
    have q4 : ∀ t : List Ob, (H ++ t)[4]? = some ⟨0, 2, [encRf r], 0⟩ := fun t => by rw [List.getElem?_append_left (by omega), g4]
    have ql : ∀ o : Ob, (H ++ [o])[H.length]? = some o := fun o => by simp
    have qs := sgx H
    have ap : ∀ o o' : Ob, H ++ [o] ++ [o'] = H ++ [o, o'] := fun o o' => by simp
    have qa : ∀ o o' : Ob, (H ++ [o, o'])[H.length]? = some o := fun o o' => by simp
    have qb : ∀ o o' : Ob, (H ++ [o, o'])[H.length + 1]? = some o' := fun o o' => by simp
    have qc : ∀ o o' u : Ob, (H ++ [o, o']).set (H.length + 1) u = H ++ [o, u] := fun o o' u => by simp
    have nq := fun s t => eq_rf0 s t hne
    have exc : ∀ (h : List Ob) (b : Option (List Ce)), exp1 h (encL 18 encC b) = some (encL 18 encC b) := fun h z => exp_clean (by simp) (by simp)
    have exi : ∀ (h : List Ob) (b : Option (List Int)), exp1 h (encL 1 I b) = some (encL 1 I b) := fun h z => exp_clean (by simp) (by simp)
    have exv : ∀ (h : List Ob) (b : Option (List Vl)), exp1 h (encL 2 encV b) = some (encL 2 encV b) := fun h z => exp_clean (by simp) (by simp)
    have exz : ∀ (h : List Ob) (b : Option (List Slt)), exp1 h (encL 6 encSlt b) = some (encL 6 encSlt b) := fun h z => exp_clean (by simp) (by simp)
    have hd1' := dr4_20; have hd2 := dr4_21; have hd3 := dr4_22
    simp [opsAt, opsIn, Try.f4] at hd1' hd2 hd3
    have w1 := Wdraw0 hd1'; have w2 := Wdraw0 hd2; have w3 := Wdraw0 hd3
    clear hd1' hd2 hd3
    rw [Wloop]
    conv => arg 1; arg 1; arg 1; simp [loopAt, loopIn, headId, Try.f4, s3, s7, s9, s15, s28, hlt, hx, hg1, x1, x2, x3, g0, g7, g4, q0, q7, q4, ql, qs, ap, qa, qb, qc, nq, hw, exc, exi, exv, exz, w1, w2, w3, -getElem?_pos]
    rw [Option.bind_some, loopK_normal]
    exact holds_loop h b R4 b4 r o ho hq H0 z0 z7 z4 K Q rest (i + 1) _ _ hd1 (by simp [s3]) (by simp [s7]) (by simp [s8]) (by simp [s9]) (by simp [s11]) (by simp [s13]) (by simp [s15]) (by simp) (by simp; omega) (fun k hk => by rw [List.getElem?_append_left (by omega)]; exact gk k hk) hK
set_option maxHeartbeats 4000000 in
theorem holds12_law (cs : Option (List Ce)) (fr : Option (List Int)) (p : Pn) (h : Rp cs fr p) (hl : p.cells.length < 2 ^ 47) (hx : ∀ c ∈ p.cells, okX c.x) (x y : Fx) (okx : okX x) (oky : okX y) :
    fnc Try.prog cfg R 4 [encP cs fr p, encX x, encX y] = some (.bool true) := by
  have exc : ∀ (h : List Ob) (b : Option (List Ce)), exp1 h (encL 18 encC b) = some (encL 18 encC b) := fun h z => exp_clean (by simp) (by simp)
  have exi : ∀ (h : List Ob) (b : Option (List Int)), exp1 h (encL 1 I b) = some (encL 1 I b) := fun h z => exp_clean (by simp) (by simp)
  have exv : ∀ (h : List Ob) (b : Option (List Vl)), exp1 h (encL 2 encV b) = some (encL 2 encV b) := fun h z => exp_clean (by simp) (by simp)
  have exz : ∀ (h : List Ob) (b : Option (List Slt)), exp1 h (encL 6 encSlt b) = some (encL 6 encSlt b) := fun h z => exp_clean (by simp) (by simp)
  have exr : ∀ (h : List Ob) (b : Option (List Rf)), exp1 h (encL 2 encRf b) = some (encL 2 encRf b) := fun h z => exp_clean (by simp) (by simp)
  have hS := small_P h 30 (by omega)
  have hF := xsmall_spec x
  have hG := xsmall_spec y
  rw [fnc_at rfl, body_eq Try.func4 rfl rfl]
  cases k1 : smallPn p 30
  · rw [k1] at hS
    simp [argsσ, Vm.results, hS, fixed12, exc, exi]
  have b := small_b (by decide) k1 hx
  rw [k1] at hS
  cases k2 : smallF x.f
  · rw [k2] at hF
    simp [argsσ, Vm.results, hS, hF, fixed12, exc, exi, exv, exz]
  rw [k2] at hF
  cases k3 : smallF y.f
  · rw [k3] at hG
    simp [argsσ, Vm.results, hS, hF, hG, fixed12, exc, exi, exv, exz]
  rw [k3] at hG
  have hM := rmay_P h b
  cases k4 : mayPn p
  · rw [k4] at hM
    simp [argsσ, Vm.results, hS, hF, hG, hM, fixed12, exc, exi, exv, exz]
  rw [k4] at hM
  obtain ⟨o, e11, r1⟩ := refs_P h b
  have hlen := refsPn_len p
  have bc := b.c
  by_cases k5 : (layPn p x).2.2 = 0
  case neg =>
    obtain ⟨h1, h2⟩ := hold_no k4 x k5
    obtain ⟨c1, f1, e1, _⟩ := lay_P h b x
    rw [h1] at e1
    have h2' : decide (((o.getD []).length : Int) = p.most) = true := by rw [r1]; exact dt h2
    generalize (layPn p x).1 = P1 at *
    generalize (layPn p x).2.1 = rf1 at *
    simp [argsσ, Vm.results, hS, hF, hG, hM, e11, e1, h2', fixed12, exc, exi, exv, exz, exr]
  obtain ⟨a, r, bb, c, d, s, ha, hb, hc, hd, ga, gb, gc, gd, gs, hsr, hold, ma, mb, mc, md, la, lb, lc⟩ := hold_facts k4 x y k5
  obtain ⟨c1, f1, e1, R1⟩ := lay_P h b x
  have b1 := lay_b b okx
  rw [ha] at e1 R1 b1
  simp only at e1 R1 b1
  obtain ⟨c2, f2, e2, R2⟩ := set_P R1 b1 r y
  have b2 := set_b b1 r oky
  rw [hb] at e2 R2 b2
  simp only at e2 R2 b2
  obtain ⟨c3, f3, e3, R3⟩ := drop_P R2 b2 r
  have b3 := drop_b b2 r
  rw [hc] at e3 R3 b3
  simp only at e3 R3 b3
  obtain ⟨c4, f4, e4, R4⟩ := lay_P R3 b3 x
  have b4 := lay_b b3 okx
  rw [hd] at e4 R4 b4
  simp only at e4 R4 b4
  have xa := getP R1 b1 ga
  have xb := getP R2 b2 gb
  have xc := getN R3 b3 gc
  have xd := getN R4 b4 gd
  have xs := getP R4 b4 gs
  have qx := xsame_P (y := x) okx
  have qy := xsame_P (y := y) oky
  rw [decide_eq_true (Eq.refl _)] at qx qy
  have n1 := may_P R1 b1; have n2 := may_P R2 b2; have n3 := may_P R3 b3; have n4 := may_P R4 b4
  rw [ma] at n1; rw [mb] at n2; rw [mc] at n3; rw [md] at n4
  obtain ⟨oa, ea, ra⟩ := refs_P R1 b1
  obtain ⟨ob, eb, rb⟩ := refs_P R2 b2
  obtain ⟨oc, ec, rc⟩ := refs_P R3 b3
  have qc := refs_self (rc.trans (lc.trans r1.symm)) (by rw [rc, lc]; omega)
  have la' : (oa.getD []).length = (o.getD []).length + 1 := by rw [ra, r1, la]
  have lb' : (ob.getD []).length = (o.getD []).length + 1 := by rw [rb, r1, lb]
  have hw : IntKind.i64.wrap (((o.getD []).length : Int) + 1) = (((o.getD []).length + 1 : Nat) : Int) := by rw [r1]; exact wr (by omega) (by omega)
  have hsr' : decide (s.ag = r.ag) = true := dt hsr
  obtain ⟨Q, hQ⟩ : ∃ Q : Option D → Prop, Q = fun o => o = some (.bool true) := ⟨_, rfl⟩
  rw [show ∀ v : Option D, (v = some (.bool true)) = Q v from fun v => by rw [hQ]]
  simp [argsσ, hS, hF, hG, hM, e11, e1, e2, e3, e4, xa, xb, xc, xd, xs, qx, qy, hsr', fixed12, exc, exi, exv, exz, exr, Option.bind_assoc]
  refine holds_loop h b R4 b4 r o (by rw [r1]; omega) (by rw [r1]; exact hold) [⟨0, 3, [encP cs fr p], 0⟩, ⟨0, 16, [encX x], 0⟩, ⟨0, 16, [encX y], 0⟩, ⟨0, 3, [encP c1 f1 a], 0⟩, ⟨0, 2, [encRf r], 0⟩, ⟨0, 3, [encP c2 f2 bb], 0⟩, ⟨0, 3, [encP c3 f3 c], 0⟩, ⟨0, 3, [encP c4 f4 d], 0⟩, ⟨0, 2, [encRf s], 0⟩, ⟨0, 16, [encX x], 0⟩, ⟨0, 16, [encX y], 0⟩, ⟨0, 16, [zF], 0⟩, ⟨0, 16, [zF], 0⟩, ⟨0, 16, [encX x], 0⟩] rfl rfl rfl _ Q (o.getD []) 0 _ _ rfl (by simp) (by simp) (by simp) (by simp) (by simp) (by simp) (by simp) (by simp) (by simp) (fun k hk => rfl) ?_
  intro σ' H' t3 t7 t8 t11 t13 t15 gk
  have g3 := gk 3 (by omega); have g5 := gk 5 (by omega); have g6 := gk 6 (by omega); have g7 := gk 7 (by omega)
  simp only [List.getElem?_cons_succ, List.getElem?_cons_zero] at g3 g5 g6 g7
  rw [hQ]
  simp [Vm.results, t3, t7, t8, t11, t13, t15, g3, g5, g6, g7, n1, n2, n3, n4, ea, eb, ec, qc, la', lb', hw, exc, exi, exr, -getElem?_pos]
end Go.Proofs.YtopgmnjijioheaaW.Rg
