/- What a pen holds; pens in memory of one's own. No conditions. -/
import Derived.Test.YtifmjomfoilnnaaGreatVmXA
set_option linter.unusedVariables false
set_option linter.unusedSimpArgs false
set_option maxRecDepth 10000
namespace Go.Proofs.YtifmjomfoilnnaaGreatW.Rg
open Go.Proofs.YtifmjomfoilnnaaGreatW.Vm Go.Proofs.YtifmjomfoilnnaaGreatW.Md
open Go Go.Proofs
@[simp] theorem encL_none {α : Type} (z : Nat) (e : α → D) : encL z e (none : Option (List α)) = .snil := rfl
theorem cellAt_get {p : Pn} {n : Nat} (h : n < p.cells.length) : p.cells[n]? = some (cellAt p n) := by
  unfold cellAt
  rw [Int.toNat_natCast, List.getElem?_eq_getElem h]; rfl
theorem rheld_spec (cs : Option (List Ce)) (fr : Option (List Int)) (m : Int) (r : Rf) (hs : (cs.getD []).length ≤ 2 ^ 30) : fnc Tryz.prog cfg R 56 [pnC (encL 18 encCe cs) (encL 1 I fr) m, encRf r] = some (.bool (heldPn ⟨cs.getD [], fr.getD [], m⟩ r)) := by
  have hd := dr56_1
  simp [opsAt, opsIn, Tryz.f56] at hd
  have hdw := Wdraw0 hd
  clear hd
  unfold heldPn
  rw [fnc_at rfl, body_eq Tryz.func56 rfl rfl]
  cases k1 : decide (0 ≤ r.ag)
  case false => simp [argsσ, Vm.results, hdw, k1]
  cases k2 : decide (r.ag < ((cs.getD []).length : Int))
  case false => simp [argsσ, Vm.results, hdw, k1, k2]
  have m1 := of_decide_eq_true k1; have m2 := of_decide_eq_true k2
  obtain ⟨n, hn⟩ : ∃ n : Nat, r.ag = n := ⟨r.ag.toNat, by omega⟩
  have hl : n < (cs.getD []).length := by omega
  have hx := idxD_nat .i64 hl
  have hg : (cs.getD [])[n]? = some (cellAt ⟨cs.getD [], fr.getD [], m⟩ n) := cellAt_get (p := ⟨cs.getD [], fr.getD [], m⟩) hl
  rw [hn] at k1 k2 ⊢
  have k2' : decide (n < (cs.getD []).length) = true := dt hl
  have k1' : decide ((0 : Int) ≤ n) = true := dt (by omega)
  generalize cellAt ⟨cs.getD [], fr.getD [], m⟩ (n : Int) = c at *
  cases k3 : c.used
  · simp [argsσ, Vm.results, hdw, hn, hx, hg, k1, k2, k1', k2', k3]
  · simp [argsσ, Vm.results, hdw, hn, hx, hg, k1, k2, k1', k2', k3]
theorem held_ix {p : Pn} {r : Rf} (h : heldPn p r = true) : ∃ n : Nat, r.ag = n ∧ n < p.cells.length ∧ p.cells[n]? = some (cellAt p r.ag) ∧ (cellAt p r.ag).used = true ∧ (cellAt p r.ag).gen = r.gen := by
  unfold heldPn at h
  simp only [Bool.and_eq_true, decide_eq_true_eq] at h
  obtain ⟨⟨⟨h1, h2⟩, h3⟩, h4⟩ := h
  obtain ⟨n, hn⟩ : ∃ n : Nat, r.ag = n := ⟨r.ag.toNat, by omega⟩
  refine ⟨n, hn, by omega, ?_, h3, h4⟩
  rw [hn]; exact cellAt_get (by omega)
theorem encX_zero : encX fx0 = zF := rfl
theorem rget_spec (cs : Option (List Ce)) (fr : Option (List Int)) (m : Int) (r : Rf) (hs : (cs.getD []).length ≤ 2 ^ 30) (hf : (fr.getD []).length ≤ 2 ^ 30) : fnc Tryz.prog cfg R 26 [pnC (encL 18 encCe cs) (encL 1 I fr) m, encRf r] = some (.tup [encX ((getPn ⟨cs.getD [], fr.getD [], m⟩ r).getD fx0), .bool (getPn ⟨cs.getD [], fr.getD [], m⟩ r).isSome]) := by
  have hM := rmay_spec cs fr m hs hf
  have hH := rheld_spec cs fr m r hs
  have exc : ∀ (h : List Ob) (b : Option (List Ce)), exp1 h (encL 18 encCe b) = some (encL 18 encCe b) := fun h z => exp_clean (by simp) (by simp)
  have exi : ∀ (h : List Ob) (b : Option (List Int)), exp1 h (encL 1 I b) = some (encL 1 I b) := fun h z => exp_clean (by simp) (by simp)
  have exv : ∀ (h : List Ob) (b : Option (List Vl)), exp1 h (encL 2 encV b) = some (encL 2 encV b) := fun h z => exp_clean (by simp) (by simp)
  have exz : ∀ (h : List Ob) (b : Option (List Slt)), exp1 h (encL 6 encSlt b) = some (encL 6 encSlt b) := fun h z => exp_clean (by simp) (by simp)
  unfold getPn
  cases k1 : mayPn ⟨cs.getD [], fr.getD [], m⟩
  · rw [k1] at hM
    rw [if_neg (by simp), fnc_at rfl, body_eq Tryz.func26 rfl rfl]
    simp [argsσ, Vm.results, exc, exi, hM, fx0, o0, v0]
  rw [k1] at hM
  cases k2 : heldPn ⟨cs.getD [], fr.getD [], m⟩ r
  · rw [k2] at hH
    rw [if_neg (by simp), fnc_at rfl, body_eq Tryz.func26 rfl rfl]
    simp [argsσ, Vm.results, exc, exi, hM, hH, fx0, o0, v0]
  obtain ⟨n, hn, hl, hg, hu, hge⟩ := held_ix k2
  rw [k2] at hH
  have hx : idxD (cs.getD []).length (I r.ag) = some n := by rw [hn]; exact idxD_nat .i64 hl
  rw [if_pos ⟨rfl, rfl⟩, fnc_at rfl, body_eq Tryz.func26 rfl rfl]
  simp only at hg
  generalize cellAt ⟨cs.getD [], fr.getD [], m⟩ r.ag = c at *
  simp [argsσ, Vm.results, exc, exi, exv, exz, hM, hH, hx, hg]
theorem pnew_spec (m : Int) : fnc Tryz.prog cfg R 34 [I m] = some (.tup [pnC (encL 18 encCe none) (encL 1 I none) ((newPn m).getD ⟨[], [], 0⟩).most, .bool (newPn m).isSome]) := by
  have hin := pin_spec m 1 1024
  unfold newPn
  rw [fnc_at rfl, body_eq Tryz.func34 rfl rfl]
  cases k1 : (decide (1 ≤ m) && decide (m ≤ 1024))
  · rw [k1] at hin
    have : ¬ (1 ≤ m ∧ m ≤ 1024) := fun h => by rw [dt h.1, dt h.2] at k1; cases k1
    rw [if_neg this]
    simp [argsσ, Vm.results, hin]
  · rw [k1] at hin
    simp only [Bool.and_eq_true, decide_eq_true_eq] at k1
    rw [if_pos k1]
    simp [argsσ, Vm.results, hin]
theorem rpnew_spec (m : Int) : fnc Tryz.prog cfg R 37 [I m] = some (.tup [pnC (encL 18 encCe none) (encL 1 I none) ((newPn m).getD ⟨[], [], 0⟩).most, .bool (newPn m).isSome]) := by
  unfold newPn
  rw [fnc_at rfl, body_eq Tryz.func37 rfl rfl]
  cases k1 : decide (m < 1)
  case true =>
    rw [if_neg (by have := of_decide_eq_true k1; omega)]
    simp [argsσ, Vm.results, k1]
  cases k2 : decide (1024 < m)
  case true =>
    rw [if_neg (by have := of_decide_eq_true k2; omega)]
    simp [argsσ, Vm.results, k1, k2]
  rw [if_pos (by have := of_decide_eq_false k1; have := of_decide_eq_false k2; omega)]
  simp [argsσ, Vm.results, k1, k2]
/-! all refs -/
theorem cl_rfs : ∀ l : List Rf, cleans (l.map encRf) = true
  | [] => rfl
  | x :: l => by simp [cl_rfs l]
theorem usedOf_cons (i : Nat) (c : Ce) (l : List Ce) : usedOf i (c :: l) = if c.used = true then ⟨(i : Int), c.gen⟩ :: usedOf (i + 1) l else usedOf (i + 1) l := rfl
theorem usedOf_len : ∀ (l : List Ce) (i : Nat), (usedOf i l).length ≤ l.length
  | [], i => by simp [usedOf]
  | c :: l, i => by
    have := usedOf_len l (i + 1)
    rw [usedOf_cons]
    split <;> simp <;> omega
theorem rrefs_loop (cs : Option (List Ce)) (fr : Option (List Int)) (m : Int) (hs : (cs.getD []).length ≤ 2 ^ 30) (hM : fnc Tryz.prog cfg R 55 [pnC (encL 18 encCe cs) (encL 1 I fr) m] = some (.bool true)) {X : Type} (K : Ex × St → Option X) (Q : Option X → Prop) : ∀ (rest : List Ce) (i : Nat) (σ : Nat → D) (H : List Ob) (L : D) (pre : List Rf), (cs.getD []).drop i = rest → pre.length ≤ i →
    σ 1 = .ptr 0 0 0 0 → σ 3 = L → σ 4 = I i → 1 ≤ H.length → H[0]? = some ⟨0, 3, [pnC (encL 18 encCe cs) (encL 1 I fr) m], 0⟩ → IsS H 2 (pre.map encRf) L → (∀ j, At L j → 1 ≤ j) →
    (∀ σ' H' L', σ' 3 = L' → IsS H' 2 ((pre ++ usedOf i rest).map encRf) L' → Q (K (.exit 0, ⟨σ', H', 35⟩))) →
    Q ((W Tryz.prog cfg (.loop (loopAt Tryz.f28 3)) ⟨σ, H, 35⟩).bind K)
  | [], i, σ, H, L, pre, hd, hp, s1, s3, s4, hH, g0, iL, aL, hK => by
    have hi : decide (i < (cs.getD []).length) = false := df (by have := congrArg List.length hd; simp at this; omega)
    rw [Wloop]
    conv => arg 1; arg 1; arg 1; simp [loopAt, loopIn, headId, Tryz.f28, s1, s3, s4, g0, hi, -getElem?_pos]
    exact hK _ H L (by simp [s3]) (by simpa [usedOf] using iL)
  | c :: rest, i, σ, H, L, pre, hd, hp, s1, s3, s4, hH, g0, iL, aL, hK => by
    have exc : ∀ (h : List Ob) (b : Option (List Ce)), exp1 h (encL 18 encCe b) = some (encL 18 encCe b) := fun h z => exp_clean (by simp) (by simp)
    have exi : ∀ (h : List Ob) (b : Option (List Int)), exp1 h (encL 1 I b) = some (encL 1 I b) := fun h z => exp_clean (by simp) (by simp)
    obtain ⟨hg1, hd1, hi⟩ := drop_get hd
    have hlt : decide (i < (cs.getD []).length) = true := dt hi
    have hx := idxD_nat .i64 hi
    have hw : IntKind.i64.wrap ((i : Int) + 1) = ((i + 1 : Nat) : Int) := wr (by omega) (by omega)
    rw [usedOf_cons] at hK
    cases ku : c.used
    case false =>
      rw [if_neg (by rw [ku]; decide)] at hK
      rw [Wloop]
      conv => arg 1; arg 1; arg 1; simp [loopAt, loopIn, headId, Tryz.f28, s1, s3, s4, g0, exc, exi, hM, hlt, hx, hg1, ku, hw, -getElem?_pos]
      rw [Option.bind_some, loopK_normal]
      exact rrefs_loop cs fr m hs hM K Q rest (i + 1) _ _ L pre hd1 (by omega) (by simp [s1]) (by simp [s3]) (by simp) hH g0 iL aL hK
    rw [if_pos ku] at hK
    obtain ⟨L', H', eA, iA, aA, pA, lA⟩ := iL.pushD 16 [encRf ⟨(i : Int), c.gen⟩] (by simp; omega)
    have es := iL.els
    have nA := iA.one; have cA := iA.cells
    have nL := iL.one; have cL := iL.cells
    have r0 : H'[0]? = some ⟨0, 3, [pnC (encL 18 encCe cs) (encL 1 I fr) m], 0⟩ := by rw [pA 0 (by omega) (fun h => by have := aL 0 h; omega), g0]
    have aA' : ∀ j, At L' j → 1 ≤ j := fun j hj => by
      rcases aA j hj with h | h
      · exact aL j h
      · omega
    rw [Wloop]
    conv => arg 1; arg 1; arg 1; simp [loopAt, loopIn, headId, Tryz.f28, s1, s3, s4, g0, exc, exi, hM, hlt, hx, hg1, ku, hw, es, eA, nA, cA, nL, cL, -List.map_append, -getElem?_pos]
    rw [Option.bind_some, loopK_normal]
    exact rrefs_loop cs fr m hs hM K Q rest (i + 1) _ _ L' (pre ++ [⟨(i : Int), c.gen⟩]) hd1 (by simp; omega) (by simp [s1]) (by simp) (by simp) (by omega) r0 (by rw [List.map_append]; exact iA) aA' (by simpa using hK)
theorem rrefs_spec (cs : Option (List Ce)) (fr : Option (List Int)) (m : Int) (hs : (cs.getD []).length ≤ 2 ^ 30) (hf : (fr.getD []).length ≤ 2 ^ 30) : ∃ o : Option (List Rf), fnc Tryz.prog cfg R 28 [pnC (encL 18 encCe cs) (encL 1 I fr) m] = some (encL 2 encRf o) ∧ o.getD [] = refsPn ⟨cs.getD [], fr.getD [], m⟩ := by
  have hM := rmay_spec cs fr m hs hf
  have exc : ∀ (h : List Ob) (b : Option (List Ce)), exp1 h (encL 18 encCe b) = some (encL 18 encCe b) := fun h z => exp_clean (by simp) (by simp)
  have exi : ∀ (h : List Ob) (b : Option (List Int)), exp1 h (encL 1 I b) = some (encL 1 I b) := fun h z => exp_clean (by simp) (by simp)
  have nl : IsS ([⟨0, 3, [pnC (encL 18 encCe cs) (encL 1 I fr) m], 0⟩] : List Ob) 2 (([] : List Rf).map encRf) (.sl 2 [] true) := .inr (.inl ⟨rfl, rfl⟩)
  obtain ⟨Q, hQ⟩ : ∃ Q : Option D → Prop, Q = fun o => ∃ b : Option (List Rf), o = some (encL 2 encRf b) ∧ b.getD [] = refsPn ⟨cs.getD [], fr.getD [], m⟩ := ⟨_, rfl⟩
  suffices h : Q (fnc Tryz.prog cfg R 28 [pnC (encL 18 encCe cs) (encL 1 I fr) m]) by rw [hQ] at h; exact h
  rw [fnc_at rfl, body_eq Tryz.func28 rfl rfl]
  unfold refsPn at hQ
  cases k1 : mayPn ⟨cs.getD [], fr.getD [], m⟩
  · rw [k1] at hM
    rw [k1] at hQ
    rw [hQ]
    refine ⟨some [], ?_, rfl⟩
    simp [argsσ]
    rw [Wloop]
    cases h0 : decide (0 < (cs.getD []).length) <;>
    simp [loopAt, loopIn, headId, Tryz.f28, exc, exi, hM, h0, Vm.results, show encL 2 encRf (some []) = .sl 2 [] false from rfl]
  rw [k1] at hM
  rw [k1, if_pos rfl] at hQ
  conv => arg 1; simp [argsσ, Option.bind_assoc]
  refine rrefs_loop cs fr m hs hM _ Q (cs.getD []) 0 _ _ (.sl 2 [] true) [] rfl (by simp) (by simp) (by simp) (by simp) (by simp) (by simp) nl (fun j h => absurd h (at_sl _ _ _ j)) ?_
  intro σ' H' L' t3 iL
  rw [List.nil_append] at iL
  obtain ⟨x1, y1⟩ := iL.expO (cl_rfs _)
  have nL := iL.one
  rw [hQ]
  refine ⟨oS (usedOf 0 (cs.getD [])) L', ?_, y1⟩
  simp [t3, x1, nL, Vm.results]
theorem clone18_spec {H : List Ob} {d : D} {xs : List D} (h : Src H 18 xs d) (hl : xs.length * 192 ≤ 2 ^ 47) :
    ∃ d' t, body Tryz.prog R 100 [d] H = some (d', H ++ t) ∧ IsS (H ++ t) 18 xs d' ∧ (∀ i, At d' i → H.length ≤ i) ∧ (∀ i, At d' i → i < H.length + t.length) := by
  rw [body_eq Tryz.func100 rfl rfl]
  have ap : ∀ h : List Ob, xs ≠ [] → apK 192 18 h (D.sl 18 [] true) [] xs = some (.own 18 h.length 0 0 xs.length, h ++ [⟨0, 18, xs, 0⟩]) := by
    intro h hx
    have hne : xs.length ≠ 0 := fun e => hx (List.length_eq_zero_iff.1 e)
    rw [apK_ok (by simp only [List.length_nil]; omega), apN_sl' hne]; simp [newOb]
  have ap0 : ∀ h : List Ob, apK 192 18 h (D.sl 18 [] true) [] [] = some (.sl 18 [] true, h) := by
    intro h; rw [apK_ok (by simp), apN_nil]
  rcases h with ⟨rfl, rfl⟩ | ⟨t, rfl⟩ | ⟨id, ver, off, len, rfl, he⟩
  · exact ⟨.snil, [], by simp [argsσ, Vm.results, binD, scal, eqD], .inl ⟨rfl, rfl⟩, fun i hi => absurd hi (at_snil i), fun i hi => absurd hi (at_snil i)⟩
  · by_cases hx : xs = []
    · subst hx
      exact ⟨.sl 18 [] true, [], by simp [argsσ, Vm.results, binD, scal, eqD, ap0], .inr (.inl ⟨rfl, rfl⟩), fun i hi => absurd hi (at_sl _ _ _ i), fun i hi => absurd hi (at_sl _ _ _ i)⟩
    · refine ⟨.own 18 H.length 0 0 xs.length, [⟨0, 18, xs, 0⟩], by simp [argsσ, Vm.results, binD, scal, eqD, ap, hx], .inr (.inr ⟨H.length, 0, [], rfl, by simp⟩), fun i hi => ?_, fun i hi => ?_⟩ <;> (rw [at_own] at hi; subst hi; simp)
  · by_cases hx : xs = []
    · subst hx
      exact ⟨.sl 18 [] true, [], by simp [argsσ, Vm.results, binD, scal, eqD, ap0, he], .inr (.inl ⟨rfl, rfl⟩), fun i hi => absurd hi (at_sl _ _ _ i), fun i hi => absurd hi (at_sl _ _ _ i)⟩
    · refine ⟨.own 18 H.length 0 0 xs.length, [⟨0, 18, xs, 0⟩], by simp [argsσ, Vm.results, binD, scal, eqD, ap, hx, he], .inr (.inr ⟨H.length, 0, [], rfl, by simp⟩), fun i hi => ?_, fun i hi => ?_⟩ <;> (rw [at_own] at hi; subst hi; simp)
theorem clone1_spec {H : List Ob} {d : D} {xs : List D} (h : Src H 1 xs d) (hl : xs.length * 8 ≤ 2 ^ 47) :
    ∃ d' t, body Tryz.prog R 101 [d] H = some (d', H ++ t) ∧ IsS (H ++ t) 1 xs d' ∧ (∀ i, At d' i → H.length ≤ i) ∧ (∀ i, At d' i → i < H.length + t.length) := by
  rw [body_eq Tryz.func101 rfl rfl]
  have ap : ∀ h : List Ob, xs ≠ [] → apK 8 1 h (D.sl 1 [] true) [] xs = some (.own 1 h.length 0 0 xs.length, h ++ [⟨0, 1, xs, 0⟩]) := by
    intro h hx
    have hne : xs.length ≠ 0 := fun e => hx (List.length_eq_zero_iff.1 e)
    rw [apK_ok (by simp only [List.length_nil]; omega), apN_sl' hne]; simp [newOb]
  have ap0 : ∀ h : List Ob, apK 8 1 h (D.sl 1 [] true) [] [] = some (.sl 1 [] true, h) := by
    intro h; rw [apK_ok (by simp), apN_nil]
  rcases h with ⟨rfl, rfl⟩ | ⟨t, rfl⟩ | ⟨id, ver, off, len, rfl, he⟩
  · exact ⟨.snil, [], by simp [argsσ, Vm.results, binD, scal, eqD], .inl ⟨rfl, rfl⟩, fun i hi => absurd hi (at_snil i), fun i hi => absurd hi (at_snil i)⟩
  · by_cases hx : xs = []
    · subst hx
      exact ⟨.sl 1 [] true, [], by simp [argsσ, Vm.results, binD, scal, eqD, ap0], .inr (.inl ⟨rfl, rfl⟩), fun i hi => absurd hi (at_sl _ _ _ i), fun i hi => absurd hi (at_sl _ _ _ i)⟩
    · refine ⟨.own 1 H.length 0 0 xs.length, [⟨0, 1, xs, 0⟩], by simp [argsσ, Vm.results, binD, scal, eqD, ap, hx], .inr (.inr ⟨H.length, 0, [], rfl, by simp⟩), fun i hi => ?_, fun i hi => ?_⟩ <;> (rw [at_own] at hi; subst hi; simp)
  · by_cases hx : xs = []
    · subst hx
      exact ⟨.sl 1 [] true, [], by simp [argsσ, Vm.results, binD, scal, eqD, ap0, he], .inr (.inl ⟨rfl, rfl⟩), fun i hi => absurd hi (at_sl _ _ _ i), fun i hi => absurd hi (at_sl _ _ _ i)⟩
    · refine ⟨.own 1 H.length 0 0 xs.length, [⟨0, 1, xs, 0⟩], by simp [argsσ, Vm.results, binD, scal, eqD, ap, hx, he], .inr (.inr ⟨H.length, 0, [], rfl, by simp⟩), fun i hi => ?_, fun i hi => ?_⟩ <;> (rw [at_own] at hi; subst hi; simp)
theorem appE {z b : Nat} (H : List Ob) (xs : List D) (hl : xs.length * b ≤ 2 ^ 47) : ∃ d' t, apK b z H (.sl z [] true) [] xs = some (d', H ++ t) ∧ IsS (H ++ t) z xs d' ∧ (∀ i, At d' i → H.length ≤ i) ∧ (∀ i, At d' i → i < H.length + t.length) := by
  rw [apK_ok (by simpa using hl)]
  by_cases hx : xs = []
  · subst hx
    exact ⟨.sl z [] true, [], by rw [apN_nil]; simp, .inr (.inl ⟨rfl, rfl⟩), fun i hi => absurd hi (at_sl _ _ _ i), fun i hi => absurd hi (at_sl _ _ _ i)⟩
  · have hne : xs.length ≠ 0 := fun e => hx (List.length_eq_zero_iff.1 e)
    refine ⟨.own z H.length 0 0 xs.length, [⟨0, z, xs, 0⟩], by rw [apN_sl' hne]; simp [newOb], .inr (.inr ⟨H.length, 0, [], rfl, by simp⟩), fun i hi => ?_, fun i hi => ?_⟩ <;> (rw [at_own] at hi; subst hi; simp)
theorem IsS.takeD {H : List Ob} {z : Nat} {xs : List D} {d : D} (h : IsS H z xs d) {t e : Nat} (hu : Tryz.prog.underlying t = some (.slice e)) (hs : szT Tryz.prog e = some z) (n : Nat) (hn : n ≤ xs.length) :
    ∃ d', (∀ h : List Ob, sliceD Tryz.prog h t d none (some (I n)) none = some (d', h)) ∧ IsS H z (xs.take n) d' ∧ (∀ i, At d' i → At d i) := by
  have hb : ∀ m k, m = xs.length → bndD m k (some (I (n : Int))) = some n := by
    intro m k hm; simp only [bndD]; rw [if_pos (by omega)]; simp
  have h0 : bndD 0 0 (some (D.int .i64 0)) = some 0 := rfl
  rcases h with ⟨rfl, rfl⟩ | ⟨rfl, rfl⟩ | ⟨id, ver, rest, rfl, hh⟩
  · have n0 : n = 0 := by simpa using hn
    subst n0
    refine ⟨.snil, fun h => ?_, .inl ⟨rfl, rfl⟩, fun i hi => hi⟩
    simp only [sliceD, hu, hs]
    rfl
  · have n0 : n = 0 := by simpa using hn
    subst n0
    refine ⟨.sl z [] true, fun h => ?_, .inr (.inl ⟨rfl, rfl⟩), fun i hi => hi⟩
    simp [sliceD, hu, hs, bndD]
  · refine ⟨.own z id ver 0 n, fun h => ?_, .inr (.inr ⟨id, ver, xs.drop n ++ rest, by simp; omega, ?_⟩), fun i hi => hi⟩
    · simp only [sliceD, hu, hs, show ∀ a b, bndD a b none = some b from fun _ _ => rfl, hb _ _ rfl]
      simp [hn]
    · rw [hh, ← List.append_assoc, List.take_append_drop]
theorem IsS.ix {H : List Ob} {α : Type} {e : α → D} {z : Nat} {l : List α} {d : D} (h : IsS H z (l.map e) d) {t el : Nat} (hu : Tryz.prog.underlying t = some (.slice el)) (hs : szT Tryz.prog el = some z) {i : Nat} (hi : i < l.length) :
    ∃ id ver rest, d = .own z id ver 0 l.length ∧ H[id]? = some ⟨ver, z, l.map e ++ rest, 0⟩ ∧ (l.map e ++ rest)[i]? = some (e l[i]) ∧ indexAddrD Tryz.prog t d (I i) = some (.ptr id ver i 0) := by
  rcases h with ⟨rfl, hx⟩ | ⟨rfl, hx⟩ | ⟨id, ver, rest, rfl, hh⟩
  · have hx : l = [] := by simpa using hx
    subst hx; simp at hi
  · have hx : l = [] := by simpa using hx
    subst hx; simp at hi
  · refine ⟨id, ver, rest, by simp, hh, ?_, ?_⟩
    · rw [List.getElem?_append_left (by simpa using hi)]; simp [hi]
    · have := ix_own hu hs id ver 0 (l.map e).length .i64 i ⟨by omega, by simp; omega⟩
      simpa using this
theorem src_encL {α : Type} {z : Nat} {e : α → D} {H : List Ob} (b : Option (List α)) : Src H z ((b.getD []).map e) (encL z e b) := by
  cases b with
  | none => exact .inl ⟨rfl, rfl⟩
  | some l => exact .inr (.inl ⟨false, rfl⟩)
/-- a pen's lists, in memory of their own -/
structure Pv (H : List Ob) (p : Pn) (C F : D) : Prop where
  c : IsS H 18 (p.cells.map encCe) C
  f : IsS H 1 (p.free.map I) F
  d : ∀ i, At C i → ¬ At F i
theorem bq_cell (c : Ce) : beq (encCe c) (encCe c) = true := by
  have h1 : ∀ b : Option (List Vl), beq (encL 2 encV b) (encL 2 encV b) = true := fun b => by cases b <;> simp [encL, bq_vals]
  have h2 : ∀ b : Option (List Slt), beq (encL 6 encSlt b) (encL 6 encSlt b) = true := fun b => by cases b <;> simp [encL, bq_slts]
  simp [h1, h2]
theorem bq_cells : ∀ l : List Ce, beqs (l.map encCe) (l.map encCe) = true
  | [] => by simp
  | x :: l => by
    have h := bq_cell x
    rw [List.map_cons]
    show beqs (encCe x :: l.map encCe) (encCe x :: l.map encCe) = true
    rw [show beqs (encCe x :: l.map encCe) (encCe x :: l.map encCe) = (beq (encCe x) (encCe x) && beqs (l.map encCe) (l.map encCe)) by simp only [beqs], h, bq_cells l]; rfl
theorem bq_ints : ∀ l : List Int, beqs (l.map I) (l.map I) = true
  | [] => by simp
  | x :: l => by simp [bq_ints l]
theorem pclone_spec (cs : Option (List Ce)) (fr : Option (List Int)) (m : Int) (H : List Ob) (hs : (cs.getD []).length ≤ 2 ^ 30) (hf : (fr.getD []).length ≤ 2 ^ 30) :
    ∃ C F t, body Tryz.prog R 69 [pnC (encL 18 encCe cs) (encL 1 I fr) m] H = some (pnC C F m, H ++ t) ∧ Pv (H ++ t) ⟨cs.getD [], fr.getD [], m⟩ C F ∧ (∀ i, At C i ∨ At F i → H.length ≤ i) := by
  obtain ⟨a, ha⟩ : ∃ a : Ob, a = ⟨0, 3, [pnC (encL 18 encCe cs) (encL 1 I fr) m], 0⟩ := ⟨_, rfl⟩
  obtain ⟨b, hb⟩ : ∃ b : Ob, b = ⟨0, 3, [pnC .snil .snil 0], 0⟩ := ⟨_, rfl⟩
  obtain ⟨C, t1, e1, i1, g1, l1⟩ := clone18_spec (H := H ++ [a, b]) (src_encL (e := encCe) cs) (by simp; omega)
  obtain ⟨F, t2, e2, i2, g2, l2⟩ := clone1_spec (H := H ++ a :: b :: t1) (src_encL (e := I) fr) (by simp; omega)
  have n1 := i1.one; have n2 := i2.one
  have c1 := i1.cells; have c2 := i2.cells
  simp only [List.append_assoc, List.cons_append, List.nil_append] at e1 e2 i1 i2
  simp only [List.length_append, List.length_cons, List.length_nil] at g1 g2 l1 l2
  have q1 : beq (encL 18 encCe cs) (encL 18 encCe cs) = true := by cases cs <;> simp [encL, bq_cells]
  have q2 : beq (encL 1 I fr) (encL 1 I fr) = true := by cases fr <;> simp [encL, bq_ints]
  refine ⟨C, F, ⟨0, 3, [pnC C F m], 0⟩ :: ⟨0, 3, [pnC C F m], 0⟩ :: (t1 ++ t2), ?_, ⟨?_, ?_, ?_⟩, ?_⟩
  · subst ha hb
    have hd := dr69_1
    simp [opsAt, opsIn, Tryz.f69] at hd
    have hdw := Wdraw hd
    clear hd
    rw [body_eq Tryz.func69 rfl rfl]
    simp [argsσ, Vm.results, hdw, e1, e2, n1, n2, c1, c2, q1, q2, logL, loud, isE, drawChk]
  · refine i1.keep fun i hi => ?_
    have := g1 i hi; have := l1 i hi
    obtain ⟨k, rfl⟩ : ∃ k, i = H.length + (k + 2) := ⟨i - H.length - 2, by omega⟩
    rw [get_app rfl, get_app rfl]
    simp only [List.getElem?_cons_succ]
    rw [List.getElem?_append_left (by omega)]
  · refine i2.keep fun i hi => ?_
    have := g2 i hi; have := l2 i hi
    obtain ⟨k, rfl⟩ : ∃ k, i = H.length + (k + 2) := ⟨i - H.length - 2, by omega⟩
    rw [get_app rfl, get_app rfl]
    simp only [List.getElem?_cons_succ]
  · intro i h1 h2; have := l1 i h1; have := g2 i h2; omega
  · rintro i (h1 | h1)
    · have := g1 i h1; omega
    · have := g2 i h1; omega
theorem copied_spec (cs : Option (List Ce)) (fr : Option (List Int)) (m : Int) (H : List Ob) (hs : (cs.getD []).length ≤ 2 ^ 30) (hf : (fr.getD []).length ≤ 2 ^ 30) :
    ∃ C F t, body Tryz.prog R 70 [pnC (encL 18 encCe cs) (encL 1 I fr) m] H = some (pnC C F m, H ++ t) ∧ Pv (H ++ t) ⟨cs.getD [], fr.getD [], m⟩ C F ∧ (∀ i, At C i ∨ At F i → H.length ≤ i) := by
  obtain ⟨a, ha⟩ : ∃ a : Ob, a = ⟨0, 3, [pnC (encL 18 encCe cs) (encL 1 I fr) m], 0⟩ := ⟨_, rfl⟩
  obtain ⟨b, hb⟩ : ∃ b : Ob, b = ⟨0, 3, [pnC .snil .snil 0], 0⟩ := ⟨_, rfl⟩
  obtain ⟨C, t1, e1, i1, g1, l1⟩ := appE (z := 18) (b := 192) (H ++ [a, b]) ((cs.getD []).map encCe) (by simp; omega)
  have n1 := i1.one; have c1 := i1.cells
  obtain ⟨a2, ha2⟩ : ∃ a : Ob, a = ⟨0, 3, [pnC C (encL 1 I fr) m], 0⟩ := ⟨_, rfl⟩
  obtain ⟨F, t2, e2, i2, g2, l2⟩ := appE (z := 1) (b := 8) (H ++ a2 :: b :: t1) ((fr.getD []).map I) (by simp; omega)
  have n2 := i2.one; have c2 := i2.cells
  simp only [List.append_assoc, List.cons_append, List.nil_append] at e1 e2 i1 i2
  simp only [List.length_append, List.length_cons, List.length_nil] at g1 g2 l1 l2
  refine ⟨C, F, ⟨0, 3, [pnC C F m], 0⟩ :: ⟨0, 3, [pnC C F m], 0⟩ :: (t1 ++ t2), ?_, ⟨?_, ?_, ?_⟩, ?_⟩
  · subst ha hb ha2
    rw [body_eq Tryz.func70 rfl rfl]
    simp [argsσ, Vm.results, e1, e2, n1, n2, c1, c2]
  · refine i1.keep fun i hi => ?_
    have := g1 i hi; have := l1 i hi
    obtain ⟨k, rfl⟩ : ∃ k, i = H.length + (k + 2) := ⟨i - H.length - 2, by omega⟩
    rw [get_app rfl, get_app rfl]
    simp only [List.getElem?_cons_succ]
    rw [List.getElem?_append_left (by omega)]
  · refine i2.keep fun i hi => ?_
    have := g2 i hi; have := l2 i hi
    obtain ⟨k, rfl⟩ : ∃ k, i = H.length + (k + 2) := ⟨i - H.length - 2, by omega⟩
    rw [get_app rfl, get_app rfl]
    simp only [List.getElem?_cons_succ]
  · intro i h1 h2; have := l1 i h1; have := g2 i h2; omega
  · rintro i (h1 | h1)
    · have := g1 i h1; omega
    · have := g2 i h1; omega
end Go.Proofs.YtifmjomfoilnnaaGreatW.Rg
