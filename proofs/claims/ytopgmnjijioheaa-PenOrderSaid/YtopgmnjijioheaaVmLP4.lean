/- PenOrder. No conditions. -/
import Derived.Test.YtopgmnjijioheaaVmLP3
set_option linter.unusedVariables false
set_option linter.unusedSimpArgs false
namespace Go.Proofs.YtopgmnjijioheaaW.Rg
open Go.Proofs.YtopgmnjijioheaaW.Vm Go.Proofs.YtopgmnjijioheaaW.Md
open Go Go.Proofs
def kR (r : Rf) (l : List Rf) : Nat := (l.takeWhile (fun q => decide (q.ag < r.ag))).length
theorem insR_take (r : Rf) : ∀ l : List Rf, insR r l = l.take (kR r l) ++ [r] ++ l.drop (kR r l)
  | [] => rfl
  | x :: l => by
    unfold insR kR
    rw [List.takeWhile_cons]
    by_cases h : x.ag < r.ag
    · rw [if_pos h, dt h, if_pos rfl, insR_take r l]
      simp [kR]
    · rw [if_neg h, df h]; simp
theorem kR_le (r : Rf) (l : List Rf) : kR r l ≤ l.length := by
  unfold kR; exact (List.takeWhile_sublist _).length_le
theorem slr_hi (b : Option (List Rf)) (c : Nat) (hc : c ≤ (b.getD []).length) (h : List Ob) : sliceD Try.prog h 52 (encL 2 encRf b) none (some (I c)) none = some (encL 2 encRf (b.map (·.take c)), h) := by
  have hu : Try.prog.underlying 52 = some (.slice 27) := un52
  have hs : szT Try.prog 27 = some 2 := sz27
  cases b with
  | none => have : c = 0 := by simpa using hc
            subst this; simp [sliceD, bndD, hu, hs]
  | some l =>
    simp only [Option.getD_some] at hc
    simp [sliceD, bndD, hc, List.map_take, hu, hs, encL]
theorem slr_lo (b : Option (List Rf)) (c : Nat) (hc : c ≤ (b.getD []).length) (h : List Ob) : sliceD Try.prog h 52 (encL 2 encRf b) (some (I c)) none none = some (encL 2 encRf (b.map (·.drop c)), h) := by
  have hu : Try.prog.underlying 52 = some (.slice 27) := un52
  have hs : szT Try.prog 27 = some 2 := sz27
  cases b with
  | none => have : c = 0 := by simpa using hc
            subst this; simp [sliceD, bndD, hu, hs]
  | some l =>
    simp only [Option.getD_some] at hc
    simp [sliceD, bndD, hc, List.map_drop, List.take_of_length_le, hu, hs, encL]
theorem order_loop (r : Rf) (o : Option (List Rf)) (ho : (o.getD []).length ≤ 2 ^ 30) (H : List Ob) (z3 : H[3]? = some ⟨0, 2, [encRf r], 0⟩) {X : Type} (K : Ex × St → Option X) (Q : Option X → Prop) : ∀ (rest : List Rf) (i : Nat) (σ : Nat → D), (o.getD []).drop i = rest → σ 7 = encL 2 encRf o → σ 9 = .ptr 3 0 0 0 → σ 12 = I i →
    (∀ σ', σ' 2 = σ 2 → σ' 3 = σ 3 → σ' 7 = encL 2 encRf o → σ' 9 = .ptr 3 0 0 0 → σ' 11 = σ 11 → σ' 12 = I ((i + kR r rest : Nat) : Int) → Q (K (.exit 0, ⟨σ', H, 113⟩))) →
    Q ((W Try.prog cfg (.loop (loopAt Try.f8 8)) ⟨σ, H, 113⟩).bind K)
  | [], i, σ, hd, s7, s9, s12, hK => by
    have hi : decide (i < (o.getD []).length) = false := df (by have := congrArg List.length hd; simp at this; omega)
    have hdr := dr8_8
    simp [opsAt, opsIn, Try.f8] at hdr
    have w1 := Wdraw0 hdr
    clear hdr
    rw [Wloop]
    conv => arg 1; arg 1; arg 1; simp [loopAt, loopIn, headId, Try.f8, s7, s12, hi, w1]
    exact hK _ (by simp) (by simp) (by simp [s7]) (by simp [s9]) (by simp) (by simp [s12, kR])
  | q :: rest, i, σ, hd, s7, s9, s12, hK => by
    obtain ⟨hg1, hd1, hi⟩ := drop_get hd
    have hlt : decide (i < (o.getD []).length) = true := dt hi
    have hx := idxD_nat .i64 hi
    have hw : IntKind.i64.wrap ((i : Int) + 1) = ((i + 1 : Nat) : Int) := wr (by omega) (by omega)
    have hdr := dr8_8
    simp [opsAt, opsIn, Try.f8] at hdr
    have w1 := Wdraw0 hdr
    clear hdr
    cases k : decide (q.ag < r.ag)
    · have e : kR r (q :: rest) = 0 := by unfold kR; rw [List.takeWhile_cons, k]; rfl
      rw [e] at hK
      rw [Wloop]
      conv => arg 1; arg 1; arg 1; simp [loopAt, loopIn, headId, Try.f8, s7, s9, s12, hlt, hx, hg1, z3, k, w1, -getElem?_pos]
      exact hK _ (by simp) (by simp) (by simp [s7]) (by simp [s9]) (by simp) (by simp [s12])
    · have e : kR r (q :: rest) = kR r rest + 1 := by unfold kR; rw [List.takeWhile_cons, k, if_pos rfl, List.length_cons]
      rw [e] at hK
      rw [Wloop]
      conv => arg 1; arg 1; arg 1; simp [loopAt, loopIn, headId, Try.f8, s7, s9, s12, hlt, hx, hg1, z3, k, hw, w1, -getElem?_pos]
      rw [Option.bind_some, loopK_normal]
      exact order_loop r o ho H z3 K Q rest (i + 1) _ hd1 (by simp [s7]) (by simp [s9]) (by simp) (fun σ' t2 t3 t7 t9 t11 t12 => hK σ' (by rw [t2]; simp) (by rw [t3]; simp) t7 t9 (by rw [t11]; simp) (by rw [t12]; congr 2; omega))
/-- refs in memory of their own: x, y, z one behind the other -/
theorem three (H : List Ob) (x y z : List Rf) (hl : (x.length + y.length + z.length) * 16 ≤ 2 ^ 40) :
    ∃ d1 H1 d2 H2 d3 H3, apK 16 2 H (.sl 2 [] true) [] (x.map encRf) = some (d1, H1) ∧ apK 16 2 H1 d1 (x.map encRf) (y.map encRf) = some (d2, H2) ∧ apK 16 2 H2 d2 (x.map encRf ++ y.map encRf) (z.map encRf) = some (d3, H3) ∧
      elsZ H1 2 d1 = some (x.map encRf) ∧ elsZ H2 2 d2 = some (x.map encRf ++ y.map encRf) ∧ IsS H3 2 ((x ++ y ++ z).map encRf) d3 ∧ d1.one = true ∧ d1.cells = [d1] ∧ d2.one = true ∧ d2.cells = [d2] ∧ d3.one = true ∧ d3.cells = [d3] ∧ beq d1 d1 = true ∧
      (∀ i, i < H.length → H1[i]? = H[i]?) ∧ (∀ i, i < H.length → H2[i]? = H[i]?) ∧ (∀ i, i < H.length → H3[i]? = H[i]?) ∧ H.length ≤ H3.length := by
  obtain ⟨d1, t1, a1, i1, g1, l1⟩ := appE (z := 2) (b := 16) H (x.map encRf) (by simp; omega)
  obtain ⟨d2, H2, a2, i2, b2, p2, m2⟩ := i1.pushD 16 (y.map encRf) (by simp; omega)
  obtain ⟨d3, H3, a3, i3, b3, p3, m3⟩ := i2.pushD 16 (z.map encRf) (by simp; omega)
  have e1 : ∀ i, i < H.length → (H ++ t1)[i]? = H[i]? := fun i hi => List.getElem?_append_left hi
  have e2 : ∀ i, i < H.length → H2[i]? = H[i]? := fun i hi => by rw [p2 i (by simp; omega) (fun e => by have := g1 i e; omega), e1 i hi]
  have n2 : ∀ i, At d2 i → H.length ≤ i := fun i hi => by
    rcases b2 i hi with h | h
    · exact g1 i h
    · simp at h; omega
  have lm : H.length ≤ H2.length := by simp at m2; omega
  refine ⟨d1, H ++ t1, d2, H2, d3, H3, a1, a2, a3, i1.els, i2.els, by rw [List.map_append, List.map_append]; exact i3, i1.one, i1.cells, i2.one, i2.cells, i3.one, i3.cells, i1.bq, e1, e2, fun i hi => ?_, by omega⟩
  rw [p3 i (by omega) (fun e => by have := n2 i e; omega), e2 i hi]
theorem two2 (H : List Ob) (x z : List Rf) (hl : (x.length + z.length) * 16 ≤ 2 ^ 40) :
    ∃ d1 H1 d3 H3, apK 16 2 H (.sl 2 [] true) [] (x.map encRf) = some (d1, H1) ∧ apK 16 2 H1 d1 (x.map encRf) (z.map encRf) = some (d3, H3) ∧
      elsZ H1 2 d1 = some (x.map encRf) ∧ IsS H3 2 ((x ++ z).map encRf) d3 ∧ d1.one = true ∧ d1.cells = [d1] ∧ d3.one = true ∧ d3.cells = [d3] := by
  obtain ⟨d1, t1, a1, i1, g1, l1⟩ := appE (z := 2) (b := 16) H (x.map encRf) (by simp; omega)
  obtain ⟨d2, H2, a2, i2, b2, p2, m2⟩ := i1.pushD 16 (z.map encRf) (by simp; omega)
  exact ⟨d1, H ++ t1, d2, H2, a1, a2, i1.els, by rw [List.map_append]; exact i2, i1.one, i1.cells, i2.one, i2.cells⟩
/-- all refs but one -/
theorem drop_order {p : Pn} (h : mayPn p = true) {n : Nat} {q : Rf} (hq : (refsPn p)[n]? = some q) : (dropPn p q).2 = 0 ∧ refsPn (dropPn p q).1 = (refsPn p).take n ++ (refsPn p).drop (n + 1) := by
  have hm := List.mem_of_getElem? hq
  rw [← held_mem h, held_iff] at hm
  obtain ⟨k, c, h1, h2, rfl⟩ := hm
  obtain ⟨d1, d2⟩ := drop_is h h1 h2
  rw [d1]
  refine ⟨rfl, ?_⟩
  have hn := (List.getElem?_eq_some_iff.1 hq).1
  have hs := refs_sorted p
  have hsp : refsPn p = (refsPn p).take n ++ ⟨(k : Nat), c.gen⟩ :: (refsPn p).drop (n + 1) := by
    have := List.getElem?_eq_getElem hn
    rw [hq] at this
    rw [Option.some.inj this, List.getElem_cons_drop, List.take_append_drop]
  have dm := fun q => drop_refs h h1 h2 (d := ⟨(c.gen + 1) % 4294967296, false, fx0⟩) rfl d2 q
  generalize (refsPn p).take n = X at *
  generalize (refsPn p).drop (n + 1) = Y at *
  rw [hsp] at hs
  rw [List.pairwise_append] at hs
  obtain ⟨s1, s2, s3⟩ := hs
  obtain ⟨s4, s5⟩ := List.pairwise_cons.1 s2
  refine sortedR_unique (refs_sorted _) (List.pairwise_append.2 ⟨s1, s5, fun a ha b hb => s3 a ha b (by simp [hb])⟩) fun q => ?_
  rw [dm, hsp]
  simp only [List.mem_append, List.mem_cons]
  constructor
  · rintro ⟨h5 | h5 | h5, h6⟩
    · exact .inl h5
    · exact absurd h5 h6
    · exact .inr h5
  · rintro (h5 | h5)
    · exact ⟨.inl h5, fun e => by have := s3 q h5 ⟨(k : Nat), c.gen⟩ (by simp); rw [e] at this; omega⟩
    · exact ⟨.inr (.inr h5), fun e => by have := s4 q h5; rw [e] at this; omega⟩
set_option maxHeartbeats 4000000 in
theorem order12_law (cs : Option (List Ce)) (fr : Option (List Int)) (p : Pn) (h : Rp cs fr p) (hl : p.cells.length < 2 ^ 47) (hx : ∀ c ∈ p.cells, okX c.x) (x : Fx) (okx : okX x) (n : Int) :
    fnc Try.prog cfg R 8 [encP cs fr p, encX x, I n] = some (.bool true) := by
  have exc : ∀ (h : List Ob) (b : Option (List Ce)), exp1 h (encL 18 encC b) = some (encL 18 encC b) := fun h z => exp_clean (by simp) (by simp)
  have exi : ∀ (h : List Ob) (b : Option (List Int)), exp1 h (encL 1 I b) = some (encL 1 I b) := fun h z => exp_clean (by simp) (by simp)
  have exv : ∀ (h : List Ob) (b : Option (List Vl)), exp1 h (encL 2 encV b) = some (encL 2 encV b) := fun h z => exp_clean (by simp) (by simp)
  have exz : ∀ (h : List Ob) (b : Option (List Slt)), exp1 h (encL 6 encSlt b) = some (encL 6 encSlt b) := fun h z => exp_clean (by simp) (by simp)
  have exr : ∀ (h : List Ob) (b : Option (List Rf)), exp1 h (encL 2 encRf b) = some (encL 2 encRf b) := fun h z => exp_clean (by simp) (by simp)
  have hS := small_P h 30 (by omega)
  have hF := xsmall_spec x
  rw [fnc_at rfl, body_eq Try.func8 rfl rfl]
  cases k1 : smallPn p 30
  · rw [k1] at hS
    simp [argsσ, Vm.results, hS, fixed12, exc, exi]
  have b := small_b (by decide) k1 hx
  rw [k1] at hS
  cases k2 : smallF x.f
  · rw [k2] at hF
    simp [argsσ, Vm.results, hS, hF, fixed12, exc, exi, exv, exz]
  rw [k2] at hF
  have hM := rmay_P h b
  cases k4 : mayPn p
  · rw [k4] at hM
    simp [argsσ, Vm.results, hS, hF, hM, fixed12, exc, exi, exv, exz]
  rw [k4] at hM
  obtain ⟨o, e11, r1⟩ := refs_P h b
  have hlen := refsPn_len p
  have bc := b.c
  have hsz : (o.getD []).length ≤ 2 ^ 30 := by rw [r1]; omega
  have mtk : ∀ m, (Option.map (fun x => List.take m x) o).getD [] = (o.getD []).take m := fun m => by cases o <;> simp
  have mdk : ∀ m, (Option.map (fun x => List.drop m x) o).getD [] = (o.getD []).drop m := fun m => by cases o <;> simp
  have cut : decide (n < 0) = true ∨ (decide (n < 0) = false ∧ decide (((o.getD []).length : Int) ≤ n) = true) ∨ (∃ m : Nat, n = m ∧ m < (o.getD []).length) := by
    by_cases h1 : n < 0
    · exact .inl (dt h1)
    · by_cases h2 : ((o.getD []).length : Int) ≤ n
      · exact .inr (.inl ⟨df h1, dt h2⟩)
      · exact .inr (.inr ⟨n.toNat, by omega, by omega⟩)
  have gone : ∀ m : Nat, m < (o.getD []).length → ∃ q P5 c5 f5 o5, (o.getD [])[m]? = some q ∧ fnc Try.prog cfg R 16 [encP cs fr p, encRf q] = some (.tup [encP c5 f5 P5, I 0]) ∧ fnc Try.prog cfg R 25 [encP c5 f5 P5] = some (encL 2 encRf o5) ∧ o5.getD [] = (o.getD []).take m ++ (o.getD []).drop (m + 1) := fun m hm => by
    have hg := List.getElem?_eq_getElem hm
    obtain ⟨c5, f5, e5, R5⟩ := drop_P h b (o.getD [])[m]
    have b5 := drop_b b (o.getD [])[m]
    obtain ⟨d1, d2⟩ := drop_order k4 (q := (o.getD [])[m]) (by rw [← r1]; exact hg)
    obtain ⟨o5, e6, r5⟩ := refs_P R5 b5
    rw [d1] at e5
    exact ⟨_, _, c5, f5, o5, hg, e5, e6, by rw [r5, d2, r1]⟩
  have hd1 := dr8_10; have hd2 := dr8_15; have hd3 := dr8_16
  simp [opsAt, opsIn, Try.f8] at hd1 hd2 hd3
  have w1 := Wdraw hd1; have w2 := Wdraw0 hd2; have w3 := Wdraw0 hd3
  clear hd1 hd2 hd3
  by_cases k5 : (layPn p x).2.2 = 0
  case neg =>
    obtain ⟨h1, h2⟩ := hold_no k4 x k5
    obtain ⟨c1, f1, e1, _⟩ := lay_P h b x
    rw [h1] at e1
    generalize (layPn p x).1 = P1 at *
    generalize (layPn p x).2.1 = rf1 at *
    rcases cut with c | ⟨c, c'⟩ | ⟨m, rfl, hm⟩
    · simp [argsσ, Vm.results, hS, hF, hM, e11, e1, c, fixed12, exc, exi, exv, exz, exr]
    · simp [argsσ, Vm.results, hS, hF, hM, e11, e1, c, c', fixed12, exc, exi, exv, exz, exr]
    · obtain ⟨q, P5, c5, f5, o5, hg, e5, e6, r5⟩ := gone m hm
      have m1 : decide ((m : Int) < 0) = false := df (by omega)
      have m2 : decide ((o.getD []).length ≤ m) = false := df (by omega)
      have hix := idxD_nat .i64 hm
      have hw : IntKind.i64.wrap ((m : Int) + 1) = ((m + 1 : Nat) : Int) := wr (by omega) (by omega)
      obtain ⟨d1, H1, d3, H3, a1, a3, s1, i3, n1, q1, n3, q3⟩ := two2 [⟨0, 3, [encP cs fr p], 0⟩, ⟨0, 16, [encX x], 0⟩, ⟨0, 3, [encP c1 f1 P1], 0⟩, ⟨0, 2, [encRf rf1], 0⟩, ⟨0, 3, [encP c5 f5 P5], 0⟩] ((o.getD []).take m) ((o.getD []).drop (m + 1)) (by simp; omega)
      obtain ⟨x1, y1⟩ := i3.expO (cl_rfs _)
      have t1 := slr_hi o m (by omega); have t2 := slr_lo o (m + 1) (by omega)
      have t2' : ∀ h, sliceD Try.prog h 52 (encL 2 encRf o) (some (I ((m : Int) + 1))) none none = some (encL 2 encRf (o.map (·.drop (m + 1))), h) := fun h => by have := t2 h; push_cast at this; exact this
      have rq := refs_self (r5.trans y1.symm) (by rw [r5]; simp; omega)
      generalize oS ((o.getD []).take m ++ (o.getD []).drop (m + 1)) d3 = o6 at *
      simp [argsσ, Vm.results, retK_flat, hS, hF, hM, e11, e1, m1, m2, hix, hw, hg, e5, e6, a1, a3, s1, n1, q1, n3, q3, x1, t1, t2, t2', rq, mtk, mdk, w2, w3, fixed12, exc, exi, exv, exz, exr, -List.map_append, -List.map_take, -List.map_drop, -getElem?_pos]
  rcases lay_is k4 x with ⟨h1, _⟩ | ⟨_, _, nn, L⟩
  · rw [h1] at k5; cases k5
  obtain ⟨c1, f1, e1, R1⟩ := lay_P h b x
  have b1 := lay_b b okx
  rw [k5] at e1
  have hre := L.refs_eq k4
  generalize (layPn p x).1 = a at *
  generalize (layPn p x).2.1 = r at *
  obtain ⟨oa, ea, ra⟩ := refs_P R1 b1
  have b1c := b1.c
  have hla := refsPn_len a
  rw [insR_take, ← r1] at hre
  have hkl := kR_le r (o.getD [])
  obtain ⟨d1, H1, d2, H2, d3, H3, a1, a2, a3, s1, s2, i3, n1, q1, n2, q2, n3, q3, bq1, p1, p2, p3, lm⟩ := three [⟨0, 3, [encP cs fr p], 0⟩, ⟨0, 16, [encX x], 0⟩, ⟨0, 3, [encP c1 f1 a], 0⟩, ⟨0, 2, [encRf r], 0⟩] ((o.getD []).take (kR r (o.getD []))) [r] ((o.getD []).drop (kR r (o.getD []))) (by simp; omega)
  obtain ⟨x1, y1⟩ := i3.expO (cl_rfs _)
  have t1 := slr_hi o (kR r (o.getD [])) hkl; have t2 := slr_lo o (kR r (o.getD [])) hkl
  have rq := refs_self (ra.trans (hre.trans y1.symm)) (by rw [ra]; omega)
  simp only [List.length_cons, List.length_nil] at p1 p2 p3 lm
  have u3 : H1[3]? = some ⟨0, 2, [encRf r], 0⟩ := p1 3 (by omega)
  have v0 : H3[0]? = some ⟨0, 3, [encP cs fr p], 0⟩ := p3 0 (by omega)
  obtain ⟨Q, hQ⟩ : ∃ Q : Option D → Prop, Q = fun o => o = some (.bool true) := ⟨_, rfl⟩
  rw [show ∀ v : Option D, (v = some (.bool true)) = Q v from fun v => by rw [hQ]]
  simp [argsσ, hS, hF, hM, e11, e1, ea, fixed12, exc, exi, exv, exz, exr, Option.bind_assoc]
  refine order_loop r o hsz _ rfl _ Q (o.getD []) 0 _ rfl (by simp) (by simp) (by simp) ?_
  intro σ' g2 g3 g7 g9 g11 g12
  simp [argsσ] at g2 g3 g11
  rw [Nat.zero_add] at g12
  simp only [List.map_cons, List.map_nil] at a2 a3 s2
  rw [hQ]
  clear hre L p1 p2 p3 i3 y1
  generalize oS ((o.getD []).take (kR r (o.getD [])) ++ [r] ++ (o.getD []).drop (kR r (o.getD []))) d3 = o6 at *
  rcases cut with c | ⟨c, c'⟩ | ⟨m, rfl, hm⟩
  · simp [Vm.results, retK_flat, g2, g3, g7, g9, g11, g12, t1, t2, a1, a2, a3, s1, s2, n1, q1, n2, q2, n3, q3, bq1, u3, v0, x1, rq, mtk, mdk, c, w1, logL, loud, isE, drawChk, exc, exi, exv, exz, exr, -List.map_append, -List.map_take, -List.map_drop, -getElem?_pos]
  · simp [Vm.results, retK_flat, g2, g3, g7, g9, g11, g12, t1, t2, a1, a2, a3, s1, s2, n1, q1, n2, q2, n3, q3, bq1, u3, v0, x1, rq, mtk, mdk, c, c', w1, logL, loud, isE, drawChk, exc, exi, exv, exz, exr, -List.map_append, -List.map_take, -List.map_drop, -getElem?_pos]
  · obtain ⟨q, P5, c5, f5, o5, hg, e5, e6, r5⟩ := gone m hm
    have m1 : decide ((m : Int) < 0) = false := df (by omega)
    have m2 : decide ((o.getD []).length ≤ m) = false := df (by omega)
    have hix := idxD_nat .i64 hm
    have hw : IntKind.i64.wrap ((m : Int) + 1) = ((m + 1 : Nat) : Int) := wr (by omega) (by omega)
    obtain ⟨d4, H4, d5, H5, a4, a5, s4, i5, n4, q4, n5, q5⟩ := two2 (H3 ++ [⟨0, 3, [encP c5 f5 P5], 0⟩]) ((o.getD []).take m) ((o.getD []).drop (m + 1)) (by simp; omega)
    obtain ⟨x5, y5⟩ := i5.expO (cl_rfs _)
    have t3 := slr_hi o m (by omega); have t4 := slr_lo o (m + 1) (by omega)
    have t4' : ∀ h, sliceD Try.prog h 52 (encL 2 encRf o) (some (I ((m : Int) + 1))) none none = some (encL 2 encRf (o.map (·.drop (m + 1))), h) := fun h => by have := t4 h; push_cast at this; exact this
    have rq2 := refs_self (r5.trans y5.symm) (by rw [r5]; simp; omega)
    have ql : ∀ o : Ob, (H3 ++ [o])[H3.length]? = some o := fun o => by simp
    have qs := sgx H3
    generalize oS ((o.getD []).take m ++ (o.getD []).drop (m + 1)) d5 = o7 at *
    simp [Vm.results, retK_flat, g2, g3, g7, g9, g11, g12, t1, t2, a1, a2, a3, s1, s2, n1, q1, n2, q2, n3, q3, bq1, u3, v0, x1, rq, mtk, mdk, m1, m2, hix, hw, hg, e5, e6, ql, qs, a4, a5, s4, n4, q4, n5, q5, x5, t3, t4, t4', rq2, w1, w2, w3, logL, loud, isE, drawChk, exc, exi, exv, exz, exr, -List.map_append, -List.map_take, -List.map_drop, -getElem?_pos]
end Go.Proofs.YtopgmnjijioheaaW.Rg
