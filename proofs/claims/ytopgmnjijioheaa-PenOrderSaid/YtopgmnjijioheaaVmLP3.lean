/- PenStale. No conditions. -/
import Derived.Test.YtopgmnjijioheaaVmLP2
set_option linter.unusedVariables false
set_option linter.unusedSimpArgs false
namespace Go.Proofs.YtopgmnjijioheaaW.Rg
open Go.Proofs.YtopgmnjijioheaaW.Vm Go.Proofs.YtopgmnjijioheaaW.Md
open Go Go.Proofs
theorem stale_loop {cs fr} {p : Pn} (h : Rp cs fr p) (b : Bp p) (o : Option (List Rf)) (ho : o.getD [] = refsPn p) (K0 : List Ob) (k0 : Nat) (hk0 : 1 ≤ K0.length) (z0 : K0[0]? = some ⟨0, 3, [encP cs fr p], 0⟩) {X : Type} (K : Ex × St → Option X) (Q : Option X → Prop) : ∀ (rest : List Rf) (i : Nat) (σ : Nat → D) (H : List Ob), (o.getD []).drop i = rest →
    σ 3 = .ptr 0 0 0 0 → σ 7 = .ptr k0 0 0 0 → σ 14 = encL 2 encRf o → σ 15 = I i → K0.length ≤ H.length → (∀ k, k < K0.length → H[k]? = K0[k]?) →
    (∀ σ' H', σ' 3 = .ptr 0 0 0 0 → σ' 7 = .ptr k0 0 0 0 → (∀ k, k < K0.length → H'[k]? = K0[k]?) → Q (K (.exit 0, ⟨σ', H', 127⟩))) →
    Q ((W Try.prog cfg (.loop (loopAt Try.f5 11)) ⟨σ, H, 127⟩).bind K)
  | [], i, σ, H, hd, s3, s7, s14, s15, hH, gk, hK => by
    have hi : decide (i < (o.getD []).length) = false := df (by have := congrArg List.length hd; simp at this; omega)
    rw [Wloop]
    conv => arg 1; arg 1; arg 1; simp [loopAt, loopIn, headId, Try.f5, s3, s14, s15, hi]
    exact hK _ H (by simp [s3]) (by simp [s7]) gk
  | q :: rest, i, σ, H, hd, s3, s7, s14, s15, hH, gk, hK => by
    obtain ⟨hg1, hd1, hi⟩ := drop_get hd
    have hsz : (o.getD []).length ≤ 2 ^ 30 := by rw [ho]; have := refsPn_len p; have := b.c; omega
    have hlt : decide (i < (o.getD []).length) = true := dt hi
    have hx := idxD_nat .i64 hi
    have hw : IntKind.i64.wrap ((i : Int) + 1) = ((i + 1 : Nat) : Int) := wr (by omega) (by omega)
    have hq : q ∈ refsPn p := by rw [← ho]; exact List.mem_of_getElem? hg1
    have his := refs_get hq
    have x1 := get_P h b q
    rw [his] at x1
    have g0 := (gk 0 (by omega)).trans z0
    have ql : ∀ o : Ob, (H ++ [o])[H.length]? = some o := fun o => by simp
    have qs := sgx H
    have exc : ∀ (h : List Ob) (b : Option (List Ce)), exp1 h (encL 18 encC b) = some (encL 18 encC b) := fun h z => exp_clean (by simp) (by simp)
    have exi : ∀ (h : List Ob) (b : Option (List Int)), exp1 h (encL 1 I b) = some (encL 1 I b) := fun h z => exp_clean (by simp) (by simp)
    have hd1' := dr5_13; have hd2 := dr5_14
    simp [opsAt, opsIn, Try.f5] at hd1' hd2
    have w1 := Wdraw0 hd1'; have w2 := Wdraw0 hd2
    clear hd1' hd2
    generalize (getPn p q).getD fx0 = z at *
    rcases Nat.eq_zero_or_pos i with rfl | hpos
    · have hw0 : IntKind.i64.wrap ((0 : Int) + 1) = 1 := by decide
      simp only [Int.natCast_zero] at s15
      have hw1 : IntKind.i64.wrap 1 = 1 := by decide
      have hx0 : idxD (o.getD []).length (I 0) = some 0 := hx
      rw [Wloop]
      conv => arg 1; arg 1; arg 1; simp [loopAt, loopIn, headId, Try.f5, s3, s7, s14, s15, hlt, hi, hx0, hg1, x1, g0, ql, qs, hw0, hw1, exc, exi, w1, w2, -getElem?_pos]
      rw [Option.bind_some, loopK_normal]
      exact stale_loop h b o ho K0 k0 hk0 z0 K Q rest 1 _ _ hd1 (by simp [s3]) (by simp [s7]) (by simp [s14]) (by simp) (by simp; omega) (fun k hk => by rw [List.getElem?_append_left (by omega)]; exact gk k hk) hK
    · obtain ⟨j, rfl⟩ : ∃ j, i = j + 1 := ⟨i - 1, by omega⟩
      have hj : j < (o.getD []).length := by omega
      have hxj := idxD_nat .i64 hj
      have hgj : (o.getD [])[j]? = some (o.getD [])[j] := List.getElem?_eq_getElem hj
      have hwj : IntKind.i64.wrap (((j + 1 : Nat) : Int) - 1) = (j : Nat) := by rw [wr (by omega) (by omega)]; omega
      have hlt2 : (o.getD [])[j].ag < q.ag := by
        have hp : (o.getD []).Pairwise (fun a b => a.ag < b.ag) := by rw [ho]; exact refs_sorted p
        have := List.pairwise_iff_getElem.1 hp j (j + 1) hj hi (by omega)
        have e : (o.getD [])[j + 1] = q := by have := List.getElem?_eq_getElem hi; rw [hg1] at this; exact (Option.some.inj this).symm
        rw [e] at this; exact this
      have k1 : decide (q.ag ≤ (o.getD [])[j].ag) = false := df (by omega)
      have k2 : decide ((0 : Int) < ((j + 1 : Nat) : Int)) = true := dt (by omega)
      generalize (o.getD [])[j] = q' at *
      generalize hi1 : j + 1 = i at *
      have k2' : decide (0 < i) = true := dt hpos
      rw [Wloop]
      conv => arg 1; arg 1; arg 1; simp [loopAt, loopIn, headId, Try.f5, s3, s7, s14, s15, hlt, hx, hg1, x1, g0, ql, qs, hw, hwj, hxj, hgj, k1, k2, k2', exc, exi, w1, w2, -getElem?_pos]
      rw [Option.bind_some, loopK_normal]
      exact stale_loop h b o ho K0 k0 hk0 z0 K Q rest (i + 1) _ _ hd1 (by simp [s3]) (by simp [s7]) (by simp [s14]) (by simp) (by simp; omega) (fun k hk => by rw [List.getElem?_append_left (by omega)]; exact gk k hk) hK
set_option maxHeartbeats 4000000 in
theorem stale12_law (cs : Option (List Ce)) (fr : Option (List Int)) (p : Pn) (h : Rp cs fr p) (hl : p.cells.length < 2 ^ 47) (hx : ∀ c ∈ p.cells, okX c.x) (r : Rf) (x : Fx) (okx : okX x) :
    fnc Try.prog cfg R 5 [encP cs fr p, encRf r, encX x] = some (.bool true) := by
  have exc : ∀ (h : List Ob) (b : Option (List Ce)), exp1 h (encL 18 encC b) = some (encL 18 encC b) := fun h z => exp_clean (by simp) (by simp)
  have exi : ∀ (h : List Ob) (b : Option (List Int)), exp1 h (encL 1 I b) = some (encL 1 I b) := fun h z => exp_clean (by simp) (by simp)
  have exv : ∀ (h : List Ob) (b : Option (List Vl)), exp1 h (encL 2 encV b) = some (encL 2 encV b) := fun h z => exp_clean (by simp) (by simp)
  have exz : ∀ (h : List Ob) (b : Option (List Slt)), exp1 h (encL 6 encSlt b) = some (encL 6 encSlt b) := fun h z => exp_clean (by simp) (by simp)
  have hS := small_P h 30 (by omega)
  have hF := xsmall_spec x
  rw [fnc_at rfl, body_eq Try.func5 rfl rfl]
  cases k1 : smallPn p 30
  · rw [k1] at hS
    simp [argsσ, Vm.results, hS, fixed12, exc, exi]
  have b := small_b (by decide) k1 hx
  rw [k1] at hS
  cases k2 : smallF x.f
  · rw [k2] at hF
    simp [argsσ, Vm.results, hS, hF, fixed12, exc, exi, exv, exz]
  rw [k2] at hF
  obtain ⟨o, e11, r1⟩ := refs_P h b
  have bc := b.c; have bf := b.f
  obtain ⟨C, t1, a1, i1, g1, l1⟩ := appE (z := 18) (b := 192) [⟨0, 3, [encP cs fr p], 0⟩, ⟨0, 2, [encRf r], 0⟩, ⟨0, 16, [encX x], 0⟩] ((cs.getD []).map encC) (by rw [h.1]; simp; omega)
  obtain ⟨F, t2, a2, i2, g2, l2⟩ := appE (z := 1) (b := 8) (⟨0, 3, [encP cs fr p], 0⟩ :: ⟨0, 2, [encRf r], 0⟩ :: ⟨0, 16, [encX x], 0⟩ :: t1) ((fr.getD []).map I) (by rw [h.2]; simp; omega)
  simp only [List.cons_append, List.nil_append] at a1 a2 i1 i2
  simp only [List.length_append, List.length_cons, List.length_nil] at g1 g2 l1 l2
  have PV : Pv (⟨0, 3, [encP cs fr p], 0⟩ :: ⟨0, 2, [encRf r], 0⟩ :: ⟨0, 16, [encX x], 0⟩ :: (t1 ++ t2)) p C F := by
    refine ⟨?_, by rw [← h.2]; exact i2, fun i h1 h2 => by have := l1 i h1; have := g2 i h2; omega⟩
    rw [← h.1]
    have := i1.app t2
    simpa using this
  obtain ⟨k0, hk0⟩ : ∃ k, t1.length + t2.length + 1 + 1 + 1 = k := ⟨_, rfl⟩
  obtain ⟨K0, hK⟩ : ∃ K : List Ob, ⟨0, 3, [encP cs fr p], 0⟩ :: ⟨0, 2, [encRf r], 0⟩ :: ⟨0, 16, [encX x], 0⟩ :: (t1 ++ (t2 ++ [⟨0, 3, [pnC C F p.most], 0⟩])) = K := ⟨_, rfl⟩
  have gz : ∀ a b d o : Ob, (a :: b :: d :: (t1 ++ (t2 ++ [o])))[k0]? = some o := fun a b d o => by rw [← hk0, ← List.append_assoc]; simp
  have sz : ∀ a b d o o' : Ob, (a :: b :: d :: (t1 ++ (t2 ++ [o]))).set k0 o' = a :: b :: d :: (t1 ++ (t2 ++ [o'])) := fun a b d o o' => by rw [← hk0, ← List.append_assoc]; simp
  have hlK : K0.length = k0 + 1 := by rw [← hK, ← hk0]; simp; omega
  have PK : Pv K0 p C F := by
    have := PV.app [⟨0, 3, [pnC C F p.most], 0⟩]
    rw [← hK]; simpa using this
  have zz : K0[k0]? = some ⟨0, 3, [pnC C F p.most], 0⟩ := by rw [← hK]; exact gz _ _ _ _
  have z0 : K0[0]? = some ⟨0, 3, [encP cs fr p], 0⟩ := by rw [← hK]; rfl
  have z1 : K0[1]? = some ⟨0, 2, [encRf r], 0⟩ := by rw [← hK]; rfl
  have z2 : K0[2]? = some ⟨0, 16, [encX x], 0⟩ := by rw [← hK]; rfl
  have y0 : ∀ t, (K0 ++ t)[0]? = some ⟨0, 3, [encP cs fr p], 0⟩ := fun t => by rw [List.getElem?_append_left (by omega), z0]
  have y1 : ∀ t, (K0 ++ t)[1]? = some ⟨0, 2, [encRf r], 0⟩ := fun t => by rw [List.getElem?_append_left (by omega), z1]
  have y2 : ∀ t, (K0 ++ t)[2]? = some ⟨0, 16, [encX x], 0⟩ := fun t => by rw [List.getElem?_append_left (by omega), z2]
  have hn1 := PK.c.one; have hn2 := PK.f.one; have hq1 := PK.c.cells; have hq2 := PK.f.cells
  have q1 : beq (encL 18 encC cs) (encL 18 encC cs) = true := by cases cs <;> simp [encL, bq_cells]
  have q2 : beq (encL 1 I fr) (encL 1 I fr) = true := by cases fr <;> simp [encL, bq_ints]
  have q3 := PK.c.bq; have q4 := PK.f.bq
  have hd := dr5_3
  simp [opsAt, opsIn, Try.f5] at hd
  have hdw := Wdraw hd
  clear hd
  obtain ⟨f1, f2, f3⟩ := stale_facts p r x
  have x1 := get_P h b r
  obtain ⟨c2, s2, e2, R2⟩ := set_P h b r x
  have b2 := set_b b r okx
  obtain ⟨c3, s3, e3, R3⟩ := drop_P h b r
  have b3 := drop_b b r
  obtain ⟨Q, hQ⟩ : ∃ Q : Option D → Prop, Q = fun o => o = some (.bool true) := ⟨_, rfl⟩
  have fin : ∀ (σ' : Nat → D) (H' : List Ob), σ' 3 = .ptr 0 0 0 0 → σ' 7 = .ptr k0 0 0 0 → (∀ k, k < K0.length → H'[k]? = K0[k]?) → fnc Try.prog cfg R 22 [encP cs fr p, encP (oS p.cells C) (oS p.free F) p] = some (.bool true) ∧ H'[0]? = some ⟨0, 3, [encP cs fr p], 0⟩ ∧ H'[k0]? = some ⟨0, 3, [pnC C F p.most], 0⟩ ∧ exp1 H' C = some (encL 18 encC (oS p.cells C)) ∧ exp1 H' F = some (encL 1 I (oS p.free F)) := fun σ' H' _ _ gk => by
    have P' : Pv H' p C F := ⟨PK.c.keep fun i hi => gk i (PK.c.lt hi), PK.f.keep fun i hi => gk i (PK.f.lt hi), PK.d⟩
    obtain ⟨x1, x2, _⟩ := P'.exp
    have := rsame_P h b (c2 := oS p.cells C) (f2 := oS p.free F) (q := p) ⟨(P'.c.expO (cl_cells _)).2, (P'.f.expO (cl_ints _)).2⟩
    rw [samePn_self] at this
    exact ⟨this, (gk 0 (by omega)).trans z0, (gk k0 (by omega)).trans zz, x1, x2⟩
  have last := fun (K : Ex × St → Option D) (σ : Nat → D) (H : List Ob) => stale_loop h b o r1 K0 k0 (by omega) z0 K Q (o.getD []) 0 σ H rfl
  rw [show ∀ v : Option D, (v = some (.bool true)) = Q v from fun v => by rw [hQ]]
  generalize (getPn p r).getD fx0 = z at *
  cases k3 : (getPn p r).isSome
  · obtain ⟨p1, p2⟩ := f3 k3
    rw [k3] at x1 f1 f2
    rw [p1] at e2 R2 b2
    rw [p2] at e3 R3 b3
    have m1 := rsame_P R2 b2 h
    have m2 := rsame_P R3 b3 h
    rw [samePn_self] at m1 m2
    generalize (setPn p r x).2 = n1 at *
    generalize (dropPn p r).2 = n2 at *
    simp [argsσ, hS, hF, e11, x1, e2, e3, m1, m2, f1, f2, a1, a2, hk0, gz, sz, hK, y0, y1, y2, z0, z1, z2, hn1, hn2, hq1, hq2, q1, q2, q3, q4, hdw, logL, loud, isE, drawChk, eqb_any, neqb_any, fixed12, exc, exi, exv, exz, Option.bind_assoc, -getElem?_pos]
    refine last _ _ _ (by simp) (by simp) (by simp) (by simp) (by simp) (fun k hk => by rw [List.getElem?_append_left (by omega)]) ?_
    intro σ' H' t3 t7 gk
    obtain ⟨w1, w2, w3, w4, w5⟩ := fin σ' H' t3 t7 gk
    rw [hQ]
    simp [Vm.results, retK_flat, t3, t7, w1, w2, w3, w4, w5, exc, exi, hn1, hn2, hq1, hq2, -getElem?_pos]
  · rw [k3] at x1 f1 f2
    generalize (setPn p r x).1 = P1 at *
    generalize (dropPn p r).1 = P2 at *
    generalize (setPn p r x).2 = n1 at *
    generalize (dropPn p r).2 = n2 at *
    simp [argsσ, hS, hF, e11, x1, e2, e3, f1, f2, a1, a2, hk0, gz, sz, hK, y0, y1, y2, z0, z1, z2, hn1, hn2, hq1, hq2, q1, q2, q3, q4, hdw, logL, loud, isE, drawChk, eqb_any, neqb_any, fixed12, exc, exi, exv, exz, Option.bind_assoc, -getElem?_pos]
    refine last _ _ _ (by simp) (by simp) (by simp) (by simp) (by simp) (fun k hk => by rw [List.getElem?_append_left (by omega)]) ?_
    intro σ' H' t3 t7 gk
    obtain ⟨w1, w2, w3, w4, w5⟩ := fin σ' H' t3 t7 gk
    rw [hQ]
    simp [Vm.results, retK_flat, t3, t7, w1, w2, w3, w4, w5, exc, exi, hn1, hn2, hq1, hq2, -getElem?_pos]
end Go.Proofs.YtopgmnjijioheaaW.Rg
