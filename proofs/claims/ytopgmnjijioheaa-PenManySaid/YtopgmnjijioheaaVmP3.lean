/- What a pen holds, a new one, all refs. No conditions. -/
import Derived.Test.YtopgmnjijioheaaVmP2
set_option linter.unusedVariables false
set_option linter.unusedSimpArgs false
namespace Go.Proofs.YtopgmnjijioheaaW.Rg
open Go.Proofs.YtopgmnjijioheaaW.Vm Go.Proofs.YtopgmnjijioheaaW.Md
open Go Go.Proofs
@[simp] theorem encL_none {α : Type} (z : Nat) (e : α → D) : encL z e (none : Option (List α)) = .snil := rfl
theorem cellAt_get {p : Pn} {n : Nat} (h : n < p.cells.length) : p.cells[n]? = some (cellAt p n) := by
  unfold cellAt
  rw [Int.toNat_natCast, List.getElem?_eq_getElem h]; rfl
theorem held_spec (cs : Option (List Ce)) (fr : Option (List Int)) (m : Int) (r : Rf) (hs : (cs.getD []).length ≤ 2 ^ 30) : fnc Try.prog cfg R 36 [pnC (encL 18 encC cs) (encL 1 I fr) m, encRf r] = some (.bool (heldPn ⟨cs.getD [], fr.getD [], m⟩ r)) := by
  have hin := in_spec r.ag 0 (((cs.getD []).length : Int) - 1)
  have hw : IntKind.i64.wrap (((cs.getD []).length : Int) - 1) = ((cs.getD []).length : Int) - 1 := wr (by omega) (by omega)
  have hd := dr36_1
  simp [opsAt, opsIn, Try.f36] at hd
  have hdw := Wdraw0 hd
  clear hd
  have he : heldPn ⟨cs.getD [], fr.getD [], m⟩ r = ((decide (0 ≤ r.ag) && decide (r.ag ≤ ((cs.getD []).length : Int) - 1)) && (cellAt ⟨cs.getD [], fr.getD [], m⟩ r.ag).used && decide ((cellAt ⟨cs.getD [], fr.getD [], m⟩ r.ag).gen = r.gen)) := by
    unfold heldPn
    rw [show decide (r.ag < ((cs.getD []).length : Int)) = decide (r.ag ≤ ((cs.getD []).length : Int) - 1) by rw [decide_eq_decide]; omega]
  rw [he, fnc_at rfl, body_eq Try.func36 rfl rfl]
  cases k1 : (decide (0 ≤ r.ag) && decide (r.ag ≤ ((cs.getD []).length : Int) - 1))
  case false =>
    rw [k1] at hin
    simp [argsσ, Vm.results, hw, hin, hdw]
  rw [k1] at hin
  simp only [Bool.and_eq_true, decide_eq_true_eq] at k1
  obtain ⟨n, hn⟩ : ∃ n : Nat, r.ag = n := ⟨r.ag.toNat, by omega⟩
  have hl : n < (cs.getD []).length := by omega
  have hx := idxD_nat .i64 hl
  have hg : (cs.getD [])[n]? = some (cellAt ⟨cs.getD [], fr.getD [], m⟩ n) := cellAt_get (p := ⟨cs.getD [], fr.getD [], m⟩) hl
  rw [hn] at hin ⊢
  generalize cellAt ⟨cs.getD [], fr.getD [], m⟩ (n : Int) = c at *
  cases k2 : c.used
  · simp [argsσ, Vm.results, hw, hin, hdw, hn, hx, hg, k2]
  · simp [argsσ, Vm.results, hw, hin, hdw, hn, hx, hg, k2]
theorem rheld_spec (cs : Option (List Ce)) (fr : Option (List Int)) (m : Int) (r : Rf) (hs : (cs.getD []).length ≤ 2 ^ 30) : fnc Try.prog cfg R 34 [pnC (encL 18 encC cs) (encL 1 I fr) m, encRf r] = some (.bool (heldPn ⟨cs.getD [], fr.getD [], m⟩ r)) := by
  have hd := dr34_1
  simp [opsAt, opsIn, Try.f34] at hd
  have hdw := Wdraw0 hd
  clear hd
  unfold heldPn
  rw [fnc_at rfl, body_eq Try.func34 rfl rfl]
  cases k1 : decide (0 ≤ r.ag)
  case false => simp [argsσ, Vm.results, hdw, k1]
  cases k2 : decide (r.ag < ((cs.getD []).length : Int))
  case false => simp [argsσ, Vm.results, hdw, k1, k2]
  have m1 := of_decide_eq_true k1; have m2 := of_decide_eq_true k2
  obtain ⟨n, hn⟩ : ∃ n : Nat, r.ag = n := ⟨r.ag.toNat, by omega⟩
  have hl : n < (cs.getD []).length := by omega
  have hx := idxD_nat .i64 hl
  have hg : (cs.getD [])[n]? = some (cellAt ⟨cs.getD [], fr.getD [], m⟩ n) := cellAt_get (p := ⟨cs.getD [], fr.getD [], m⟩) hl
  rw [hn] at k1 k2 ⊢
  have k2' : decide (n < (cs.getD []).length) = true := dt hl
  have k1' : decide ((0 : Int) ≤ n) = true := dt (by omega)
  generalize cellAt ⟨cs.getD [], fr.getD [], m⟩ (n : Int) = c at *
  cases k3 : c.used
  · simp [argsσ, Vm.results, hdw, hn, hx, hg, k1, k2, k1', k2', k3]
  · simp [argsσ, Vm.results, hdw, hn, hx, hg, k1, k2, k1', k2', k3]
theorem held_ix {p : Pn} {r : Rf} (h : heldPn p r = true) : ∃ n : Nat, r.ag = n ∧ n < p.cells.length ∧ p.cells[n]? = some (cellAt p r.ag) ∧ (cellAt p r.ag).used = true ∧ (cellAt p r.ag).gen = r.gen := by
  unfold heldPn at h
  simp only [Bool.and_eq_true, decide_eq_true_eq] at h
  obtain ⟨⟨⟨h1, h2⟩, h3⟩, h4⟩ := h
  obtain ⟨n, hn⟩ : ∃ n : Nat, r.ag = n := ⟨r.ag.toNat, by omega⟩
  refine ⟨n, hn, by omega, ?_, h3, h4⟩
  rw [hn]; exact cellAt_get (by omega)
theorem encX_zero : encX fx0 = zF := rfl
theorem get_spec (cs : Option (List Ce)) (fr : Option (List Int)) (m : Int) (r : Rf) (hs : (cs.getD []).length ≤ 2 ^ 30) (hf : (fr.getD []).length ≤ 2 ^ 30) : fnc Try.prog cfg R 18 [pnC (encL 18 encC cs) (encL 1 I fr) m, encRf r] = some (.tup [encX ((getPn ⟨cs.getD [], fr.getD [], m⟩ r).getD fx0), .bool (getPn ⟨cs.getD [], fr.getD [], m⟩ r).isSome]) := by
  have hM := pmay_spec cs fr m hs hf
  have hH := held_spec cs fr m r hs
  have exc : ∀ (h : List Ob) (b : Option (List Ce)), exp1 h (encL 18 encC b) = some (encL 18 encC b) := fun h z => exp_clean (by simp) (by simp)
  have exi : ∀ (h : List Ob) (b : Option (List Int)), exp1 h (encL 1 I b) = some (encL 1 I b) := fun h z => exp_clean (by simp) (by simp)
  have exv : ∀ (h : List Ob) (b : Option (List Vl)), exp1 h (encL 2 encV b) = some (encL 2 encV b) := fun h z => exp_clean (by simp) (by simp)
  have exz : ∀ (h : List Ob) (b : Option (List Slt)), exp1 h (encL 6 encSlt b) = some (encL 6 encSlt b) := fun h z => exp_clean (by simp) (by simp)
  unfold getPn
  cases k1 : mayPn ⟨cs.getD [], fr.getD [], m⟩
  · rw [k1] at hM
    rw [if_neg (by simp), fnc_at rfl, body_eq Try.func18 rfl rfl]
    simp [argsσ, Vm.results, exc, exi, hM, fx0, o0, v0]
  rw [k1] at hM
  cases k2 : heldPn ⟨cs.getD [], fr.getD [], m⟩ r
  · rw [k2] at hH
    rw [if_neg (by simp), fnc_at rfl, body_eq Try.func18 rfl rfl]
    simp [argsσ, Vm.results, exc, exi, hM, hH, fx0, o0, v0]
  obtain ⟨n, hn, hl, hg, hu, hge⟩ := held_ix k2
  rw [k2] at hH
  have hx : idxD (cs.getD []).length (I r.ag) = some n := by rw [hn]; exact idxD_nat .i64 hl
  rw [if_pos ⟨rfl, rfl⟩, fnc_at rfl, body_eq Try.func18 rfl rfl]
  simp only at hg
  generalize cellAt ⟨cs.getD [], fr.getD [], m⟩ r.ag = c at *
  simp [argsσ, Vm.results, exc, exi, exv, exz, hM, hH, hx, hg]
theorem rget_spec (cs : Option (List Ce)) (fr : Option (List Int)) (m : Int) (r : Rf) (hs : (cs.getD []).length ≤ 2 ^ 30) (hf : (fr.getD []).length ≤ 2 ^ 30) : fnc Try.prog cfg R 19 [pnC (encL 18 encC cs) (encL 1 I fr) m, encRf r] = some (.tup [encX ((getPn ⟨cs.getD [], fr.getD [], m⟩ r).getD fx0), .bool (getPn ⟨cs.getD [], fr.getD [], m⟩ r).isSome]) := by
  have hM := rmay_spec cs fr m hs hf
  have hH := rheld_spec cs fr m r hs
  have exc : ∀ (h : List Ob) (b : Option (List Ce)), exp1 h (encL 18 encC b) = some (encL 18 encC b) := fun h z => exp_clean (by simp) (by simp)
  have exi : ∀ (h : List Ob) (b : Option (List Int)), exp1 h (encL 1 I b) = some (encL 1 I b) := fun h z => exp_clean (by simp) (by simp)
  have exv : ∀ (h : List Ob) (b : Option (List Vl)), exp1 h (encL 2 encV b) = some (encL 2 encV b) := fun h z => exp_clean (by simp) (by simp)
  have exz : ∀ (h : List Ob) (b : Option (List Slt)), exp1 h (encL 6 encSlt b) = some (encL 6 encSlt b) := fun h z => exp_clean (by simp) (by simp)
  unfold getPn
  cases k1 : mayPn ⟨cs.getD [], fr.getD [], m⟩
  · rw [k1] at hM
    rw [if_neg (by simp), fnc_at rfl, body_eq Try.func19 rfl rfl]
    simp [argsσ, Vm.results, exc, exi, hM, fx0, o0, v0]
  rw [k1] at hM
  cases k2 : heldPn ⟨cs.getD [], fr.getD [], m⟩ r
  · rw [k2] at hH
    rw [if_neg (by simp), fnc_at rfl, body_eq Try.func19 rfl rfl]
    simp [argsσ, Vm.results, exc, exi, hM, hH, fx0, o0, v0]
  obtain ⟨n, hn, hl, hg, hu, hge⟩ := held_ix k2
  rw [k2] at hH
  have hx : idxD (cs.getD []).length (I r.ag) = some n := by rw [hn]; exact idxD_nat .i64 hl
  rw [if_pos ⟨rfl, rfl⟩, fnc_at rfl, body_eq Try.func19 rfl rfl]
  simp only at hg
  generalize cellAt ⟨cs.getD [], fr.getD [], m⟩ r.ag = c at *
  simp [argsσ, Vm.results, exc, exi, exv, exz, hM, hH, hx, hg]
theorem pnew_spec (m : Int) : fnc Try.prog cfg R 20 [I m] = some (.tup [pnC (encL 18 encC none) (encL 1 I none) ((newPn m).getD ⟨[], [], 0⟩).most, .bool (newPn m).isSome]) := by
  have hin := in_spec m 1 1024
  unfold newPn
  rw [fnc_at rfl, body_eq Try.func20 rfl rfl]
  cases k1 : (decide (1 ≤ m) && decide (m ≤ 1024))
  · rw [k1] at hin
    have : ¬ (1 ≤ m ∧ m ≤ 1024) := fun h => by rw [dt h.1, dt h.2] at k1; cases k1
    rw [if_neg this]
    simp [argsσ, Vm.results, hin]
  · rw [k1] at hin
    simp only [Bool.and_eq_true, decide_eq_true_eq] at k1
    rw [if_pos k1]
    simp [argsσ, Vm.results, hin]
theorem rpnew_spec (m : Int) : fnc Try.prog cfg R 21 [I m] = some (.tup [pnC (encL 18 encC none) (encL 1 I none) ((newPn m).getD ⟨[], [], 0⟩).most, .bool (newPn m).isSome]) := by
  unfold newPn
  rw [fnc_at rfl, body_eq Try.func21 rfl rfl]
  cases k1 : decide (m < 1)
  case true =>
    rw [if_neg (by have := of_decide_eq_true k1; omega)]
    simp [argsσ, Vm.results, k1]
  cases k2 : decide (1024 < m)
  case true =>
    rw [if_neg (by have := of_decide_eq_true k2; omega)]
    simp [argsσ, Vm.results, k1, k2]
  rw [if_pos (by have := of_decide_eq_false k1; have := of_decide_eq_false k2; omega)]
  simp [argsσ, Vm.results, k1, k2]
/-! all refs -/
theorem cl_rfs : ∀ l : List Rf, cleans (l.map encRf) = true
  | [] => rfl
  | x :: l => by simp [cl_rfs l]
theorem usedOf_cons (i : Nat) (c : Ce) (l : List Ce) : usedOf i (c :: l) = if c.used = true then ⟨(i : Int), c.gen⟩ :: usedOf (i + 1) l else usedOf (i + 1) l := rfl
theorem usedOf_len : ∀ (l : List Ce) (i : Nat), (usedOf i l).length ≤ l.length
  | [], i => by simp [usedOf]
  | c :: l, i => by
    have := usedOf_len l (i + 1)
    rw [usedOf_cons]
    split <;> simp <;> omega
theorem refs_loop2 (cs : Option (List Ce)) (fr : Option (List Int)) (m : Int) (hs : (cs.getD []).length ≤ 2 ^ 30) {X : Type} (K : Ex × St → Option X) (Q : Option X → Prop) : ∀ (rest : List Ce) (i : Nat) (σ : Nat → D) (H : List Ob) (L : D) (pre : List Rf), (cs.getD []).drop i = rest → pre.length ≤ i →
    σ 3 = L → σ 10 = encL 18 encC cs → σ 11 = I (cs.getD []).length → σ 12 = I i → IsS H 2 (pre.map encRf) L →
    (∀ σ' H' L', σ' 3 = L' → IsS H' 2 ((pre ++ usedOf i rest).map encRf) L' → Q (K (.exit 0, ⟨σ', H', 28⟩))) →
    Q ((W Try.prog cfg (.loop (loopAt Try.f25 5)) ⟨σ, H, 28⟩).bind K)
  | [], i, σ, H, L, pre, hd, hp, s3, s10, s11, s12, iL, hK => by
    have hi : ¬ (i < (cs.getD []).length) := by have := congrArg List.length hd; simp at this; omega
    rw [Wloop]
    conv => arg 1; arg 1; arg 1; simp [loopAt, loopIn, headId, Try.f25, s3, s10, s11, s12, hi]
    exact hK _ H L (by simp [s3]) (by simpa [usedOf] using iL)
  | c :: rest, i, σ, H, L, pre, hd, hp, s3, s10, s11, s12, iL, hK => by
    obtain ⟨hg1, hd1, hi⟩ := drop_get hd
    have hlt : decide (i < (cs.getD []).length) = true := dt hi
    have hx := idxD_nat .i64 hi
    have hw : IntKind.i64.wrap ((i : Int) + 1) = ((i + 1 : Nat) : Int) := wr (by omega) (by omega)
    have ql : ∀ o : Ob, (H ++ [o])[H.length]? = some o := fun o => by simp
    have qs := sgx H
    rw [usedOf_cons] at hK
    cases ku : c.used
    case false =>
      rw [if_neg (by rw [ku]; decide)] at hK
      rw [Wloop]
      conv => arg 1; arg 1; arg 1; simp [loopAt, loopIn, headId, Try.f25, s3, s10, s11, s12, hlt, hx, hg1, ql, qs, ku, hw, -getElem?_pos]
      rw [Option.bind_some, loopK_normal]
      exact refs_loop2 cs fr m hs K Q rest (i + 1) _ _ L pre hd1 (by omega) (by simp [s3]) (by simp [s10]) (by simp [s11]) (by simp) (iL.app _) hK
    rw [if_pos ku] at hK
    obtain ⟨L', H', eA, iA, aA, pA, lA⟩ := (iL.app [⟨0, 18, [encC c], 0⟩]).pushD 16 [encRf ⟨(i : Int), c.gen⟩] (by simp; omega)
    have es := (iL.app [⟨0, 18, [encC c], 0⟩]).els
    have nA := iA.one; have cA := iA.cells
    have nL := iL.one; have cL := iL.cells
    have hsh : encC c = .agg [I c.gen, .bool true, I c.x.f.fn, I c.x.f.pc, encL 2 encV c.x.a, encL 2 encV c.x.b, encL 6 encSlt c.x.z, I c.x.f.seed, I c.x.f.spawned, I c.x.f.draws, I c.x.f.state, I c.x.f.wait, I c.x.f.out.trap, I c.x.f.out.v.re, I c.x.f.out.v.im, I c.x.f.up.ag, I c.x.f.up.gen, I c.x.f.upSlot] := by rw [← ku]
    rw [hsh] at eA es
    rw [Wloop]
    conv => arg 1; arg 1; arg 1; simp [loopAt, loopIn, headId, Try.f25, s3, s10, s11, s12, hlt, hx, hg1, ql, qs, ku, hw, es, eA, nA, cA, nL, cL, -List.map_append, -getElem?_pos]
    rw [Option.bind_some, loopK_normal]
    exact refs_loop2 cs fr m hs K Q rest (i + 1) _ _ L' (pre ++ [⟨(i : Int), c.gen⟩]) hd1 (by simp; omega) (by simp) (by simp [s10]) (by simp [s11]) (by simp) (by rw [List.map_append]; exact iA) (by simpa using hK)
theorem refsP_spec (cs : Option (List Ce)) (fr : Option (List Int)) (m : Int) (hs : (cs.getD []).length ≤ 2 ^ 30) (hf : (fr.getD []).length ≤ 2 ^ 30) : ∃ o : Option (List Rf), fnc Try.prog cfg R 25 [pnC (encL 18 encC cs) (encL 1 I fr) m] = some (encL 2 encRf o) ∧ o.getD [] = refsPn ⟨cs.getD [], fr.getD [], m⟩ := by
  have hM := pmay_spec cs fr m hs hf
  have exc : ∀ (h : List Ob) (b : Option (List Ce)), exp1 h (encL 18 encC b) = some (encL 18 encC b) := fun h z => exp_clean (by simp) (by simp)
  have exi : ∀ (h : List Ob) (b : Option (List Int)), exp1 h (encL 1 I b) = some (encL 1 I b) := fun h z => exp_clean (by simp) (by simp)
  unfold refsPn
  cases k1 : mayPn ⟨cs.getD [], fr.getD [], m⟩
  · rw [k1] at hM
    refine ⟨none, ?_, rfl⟩
    rw [fnc_at rfl, body_eq Try.func25 rfl rfl]
    simp [argsσ, Vm.results, exc, exi, hM]
  rw [k1] at hM
  rw [if_pos rfl]
  obtain ⟨Q, hQ⟩ : ∃ Q : Option D → Prop, Q = fun o => ∃ b : Option (List Rf), o = some (encL 2 encRf b) ∧ b.getD [] = usedOf 0 (cs.getD []) := ⟨_, rfl⟩
  suffices h : Q (fnc Try.prog cfg R 25 [pnC (encL 18 encC cs) (encL 1 I fr) m]) by rw [hQ] at h; exact h
  rw [fnc_at rfl, body_eq Try.func25 rfl rfl]
  conv => arg 1; simp [argsσ, exc, exi, hM, Option.bind_assoc]
  refine refs_loop2 cs fr m hs _ Q (cs.getD []) 0 _ _ .snil [] rfl (by simp) (by simp) (by simp) (by simp) (by simp) (.inl ⟨rfl, rfl⟩) ?_
  intro σ' H' L' t3 iL
  rw [List.nil_append] at iL
  obtain ⟨x1, y1⟩ := iL.expO (cl_rfs _)
  have nL := iL.one
  rw [hQ]
  refine ⟨oS (usedOf 0 (cs.getD [])) L', ?_, y1⟩
  simp [t3, x1, nL, Vm.results]
theorem rrefs_loop (cs : Option (List Ce)) (fr : Option (List Int)) (m : Int) (hs : (cs.getD []).length ≤ 2 ^ 30) (hM : fnc Try.prog cfg R 28 [pnC (encL 18 encC cs) (encL 1 I fr) m] = some (.bool true)) {X : Type} (K : Ex × St → Option X) (Q : Option X → Prop) : ∀ (rest : List Ce) (i : Nat) (σ : Nat → D) (H : List Ob) (L : D) (pre : List Rf), (cs.getD []).drop i = rest → pre.length ≤ i →
    σ 1 = .ptr 0 0 0 0 → σ 3 = L → σ 4 = I i → 1 ≤ H.length → H[0]? = some ⟨0, 3, [pnC (encL 18 encC cs) (encL 1 I fr) m], 0⟩ → IsS H 2 (pre.map encRf) L → (∀ j, At L j → 1 ≤ j) →
    (∀ σ' H' L', σ' 3 = L' → IsS H' 2 ((pre ++ usedOf i rest).map encRf) L' → Q (K (.exit 0, ⟨σ', H', 35⟩))) →
    Q ((W Try.prog cfg (.loop (loopAt Try.f26 3)) ⟨σ, H, 35⟩).bind K)
  | [], i, σ, H, L, pre, hd, hp, s1, s3, s4, hH, g0, iL, aL, hK => by
    have hi : decide (i < (cs.getD []).length) = false := df (by have := congrArg List.length hd; simp at this; omega)
    rw [Wloop]
    conv => arg 1; arg 1; arg 1; simp [loopAt, loopIn, headId, Try.f26, s1, s3, s4, g0, hi, -getElem?_pos]
    exact hK _ H L (by simp [s3]) (by simpa [usedOf] using iL)
  | c :: rest, i, σ, H, L, pre, hd, hp, s1, s3, s4, hH, g0, iL, aL, hK => by
    have exc : ∀ (h : List Ob) (b : Option (List Ce)), exp1 h (encL 18 encC b) = some (encL 18 encC b) := fun h z => exp_clean (by simp) (by simp)
    have exi : ∀ (h : List Ob) (b : Option (List Int)), exp1 h (encL 1 I b) = some (encL 1 I b) := fun h z => exp_clean (by simp) (by simp)
    obtain ⟨hg1, hd1, hi⟩ := drop_get hd
    have hlt : decide (i < (cs.getD []).length) = true := dt hi
    have hx := idxD_nat .i64 hi
    have hw : IntKind.i64.wrap ((i : Int) + 1) = ((i + 1 : Nat) : Int) := wr (by omega) (by omega)
    rw [usedOf_cons] at hK
    cases ku : c.used
    case false =>
      rw [if_neg (by rw [ku]; decide)] at hK
      rw [Wloop]
      conv => arg 1; arg 1; arg 1; simp [loopAt, loopIn, headId, Try.f26, s1, s3, s4, g0, exc, exi, hM, hlt, hx, hg1, ku, hw, -getElem?_pos]
      rw [Option.bind_some, loopK_normal]
      exact rrefs_loop cs fr m hs hM K Q rest (i + 1) _ _ L pre hd1 (by omega) (by simp [s1]) (by simp [s3]) (by simp) hH g0 iL aL hK
    rw [if_pos ku] at hK
    obtain ⟨L', H', eA, iA, aA, pA, lA⟩ := iL.pushD 16 [encRf ⟨(i : Int), c.gen⟩] (by simp; omega)
    have es := iL.els
    have nA := iA.one; have cA := iA.cells
    have nL := iL.one; have cL := iL.cells
    have r0 : H'[0]? = some ⟨0, 3, [pnC (encL 18 encC cs) (encL 1 I fr) m], 0⟩ := by rw [pA 0 (by omega) (fun h => by have := aL 0 h; omega), g0]
    have aA' : ∀ j, At L' j → 1 ≤ j := fun j hj => by
      rcases aA j hj with h | h
      · exact aL j h
      · omega
    rw [Wloop]
    conv => arg 1; arg 1; arg 1; simp [loopAt, loopIn, headId, Try.f26, s1, s3, s4, g0, exc, exi, hM, hlt, hx, hg1, ku, hw, es, eA, nA, cA, nL, cL, -List.map_append, -getElem?_pos]
    rw [Option.bind_some, loopK_normal]
    exact rrefs_loop cs fr m hs hM K Q rest (i + 1) _ _ L' (pre ++ [⟨(i : Int), c.gen⟩]) hd1 (by simp; omega) (by simp [s1]) (by simp) (by simp) (by omega) r0 (by rw [List.map_append]; exact iA) aA' (by simpa using hK)
theorem rrefs_spec (cs : Option (List Ce)) (fr : Option (List Int)) (m : Int) (hs : (cs.getD []).length ≤ 2 ^ 30) (hf : (fr.getD []).length ≤ 2 ^ 30) : ∃ o : Option (List Rf), fnc Try.prog cfg R 26 [pnC (encL 18 encC cs) (encL 1 I fr) m] = some (encL 2 encRf o) ∧ o.getD [] = refsPn ⟨cs.getD [], fr.getD [], m⟩ := by
  have hM := rmay_spec cs fr m hs hf
  have exc : ∀ (h : List Ob) (b : Option (List Ce)), exp1 h (encL 18 encC b) = some (encL 18 encC b) := fun h z => exp_clean (by simp) (by simp)
  have exi : ∀ (h : List Ob) (b : Option (List Int)), exp1 h (encL 1 I b) = some (encL 1 I b) := fun h z => exp_clean (by simp) (by simp)
  have nl : IsS ([⟨0, 3, [pnC (encL 18 encC cs) (encL 1 I fr) m], 0⟩] : List Ob) 2 (([] : List Rf).map encRf) (.sl 2 [] true) := .inr (.inl ⟨rfl, rfl⟩)
  obtain ⟨Q, hQ⟩ : ∃ Q : Option D → Prop, Q = fun o => ∃ b : Option (List Rf), o = some (encL 2 encRf b) ∧ b.getD [] = refsPn ⟨cs.getD [], fr.getD [], m⟩ := ⟨_, rfl⟩
  suffices h : Q (fnc Try.prog cfg R 26 [pnC (encL 18 encC cs) (encL 1 I fr) m]) by rw [hQ] at h; exact h
  rw [fnc_at rfl, body_eq Try.func26 rfl rfl]
  unfold refsPn at hQ
  cases k1 : mayPn ⟨cs.getD [], fr.getD [], m⟩
  · rw [k1] at hM
    rw [k1] at hQ
    rw [hQ]
    refine ⟨some [], ?_, rfl⟩
    simp [argsσ]
    rw [Wloop]
    cases h0 : decide (0 < (cs.getD []).length) <;>
    simp [loopAt, loopIn, headId, Try.f26, exc, exi, hM, h0, Vm.results, show encL 2 encRf (some []) = .sl 2 [] false from rfl]
  rw [k1] at hM
  rw [k1, if_pos rfl] at hQ
  conv => arg 1; simp [argsσ, Option.bind_assoc]
  refine rrefs_loop cs fr m hs hM _ Q (cs.getD []) 0 _ _ (.sl 2 [] true) [] rfl (by simp) (by simp) (by simp) (by simp) (by simp) (by simp) nl (fun j h => absurd h (at_sl _ _ _ j)) ?_
  intro σ' H' L' t3 iL
  rw [List.nil_append] at iL
  obtain ⟨x1, y1⟩ := iL.expO (cl_rfs _)
  have nL := iL.one
  rw [hQ]
  refine ⟨oS (usedOf 0 (cs.getD [])) L', ?_, y1⟩
  simp [t3, x1, nL, Vm.results]
end Go.Proofs.YtopgmnjijioheaaW.Rg
