/- A frame is laid into a new cell; the document's laying. No conditions. -/
import Derived.Test.YtopgmnjijioheaaVmP5
set_option linter.unusedVariables false
set_option linter.unusedSimpArgs false
namespace Go.Proofs.YtopgmnjijioheaaW.Rg
open Go.Proofs.YtopgmnjijioheaaW.Vm Go.Proofs.YtopgmnjijioheaaW.Md
open Go Go.Proofs
theorem Pv.push {K : List Ob} {p : Pn} {C F : D} (h : Pv K p C F) (c : Ce) (hl : p.cells.length ≤ 2 ^ 30) (k : Nat) (hk : ∀ i, At C i ∨ At F i → k ≤ i) (hkl : k ≤ K.length) :
    ∃ C' K', apK 192 18 K C (p.cells.map encC) [encC c] = some (C', K') ∧ Pv K' ⟨p.cells ++ [c], p.free, p.most⟩ C' F ∧ (∀ i, i < k → K'[i]? = K[i]?) ∧ K.length ≤ K'.length ∧ (∀ i, At C' i ∨ At F i → k ≤ i) ∧ (∀ i, i < K.length → ¬ At C i → K'[i]? = K[i]?) ∧ (∀ i, At C' i → At C i ∨ K.length ≤ i) := by
  obtain ⟨C', K', eA, iA, aA, pA, lA⟩ := h.c.pushD 192 [encC c] (by simp; omega)
  refine ⟨C', K', eA, ⟨by rw [List.map_append]; exact iA, h.f.keep fun i hi => pA i (h.f.lt hi) (fun h2 => h.d i h2 hi), fun i h1 h2 => ?_⟩, fun i hi => pA i (by omega) (fun h2 => by have := hk i (.inl h2); omega), lA, fun i hi => ?_, pA, fun i hi => ?_⟩
  · rcases aA i h1 with h3 | h3
    · exact h.d i h3 h2
    · have := h.f.lt h2; omega
  · rcases hi with h1 | h1
    · rcases aA i h1 with h3 | h3
      · exact hk i (.inl h3)
      · omega
    · exact hk i (.inr h1)
  · rcases aA i hi with h3 | h3
    · exact .inl h3
    · exact .inr h3.1
set_option maxHeartbeats 2000000 in
theorem play_grow (cs : Option (List Ce)) (fr : Option (List Int)) (m : Int) (x : Fx) (hs : (cs.getD []).length ≤ 2 ^ 30) (hf : (fr.getD []).length ≤ 2 ^ 30) (h : mayPn ⟨cs.getD [], fr.getD [], m⟩ = true) (h0 : fr.getD [] = []) (h1 : ((cs.getD []).length : Int) ≠ m) :
    Ql ⟨cs.getD [], fr.getD [], m⟩ x (fnc Try.prog cfg R 12 [pnC (encL 18 encC cs) (encL 1 I fr) m, encX x]) := by
  have hM := pmay_spec cs fr m hs hf
  rw [h] at hM
  have exc : ∀ (h : List Ob) (b : Option (List Ce)), exp1 h (encL 18 encC b) = some (encL 18 encC b) := fun h z => exp_clean (by simp) (by simp)
  have exi : ∀ (h : List Ob) (b : Option (List Int)), exp1 h (encL 1 I b) = some (encL 1 I b) := fun h z => exp_clean (by simp) (by simp)
  have hlay : layPn ⟨cs.getD [], fr.getD [], m⟩ x = (⟨cs.getD [] ++ [⟨0, true, x⟩], [], m⟩, ⟨(cs.getD []).length, 0⟩, 0) := by
    unfold layPn
    rw [if_neg (by rw [h]; decide)]
    simp only
    rw [if_pos h0, if_neg h1]
  unfold Ql
  rw [hlay]
  obtain ⟨C0, F, t, ec, PV, lo⟩ := pclone_spec cs fr m [⟨0, 3, [pnC (encL 18 encC cs) (encL 1 I fr) m], 0⟩, ⟨0, 16, [encX x], 0⟩, ⟨0, 3, [pnC .snil .snil 0], 0⟩, ⟨0, 2, [encRf ⟨0, 0⟩], 0⟩] hs hf
  simp only [List.length_cons, List.length_nil] at lo
  obtain ⟨K0, hK⟩ : ∃ K : List Ob, ⟨0, 3, [pnC C0 F m], 0⟩ :: ⟨0, 16, [encX x], 0⟩ :: ⟨0, 3, [pnC .snil .snil 0], 0⟩ :: ⟨0, 2, [encRf ⟨0, 0⟩], 0⟩ :: t = K := ⟨_, rfl⟩
  have PK : Pv K0 ⟨cs.getD [], fr.getD [], m⟩ C0 F := by
    rw [← hK]; exact PV.set (k := 0) (fun i hi => by have := lo i hi; omega) _
  obtain ⟨C, K, eA, PF, pA, lA, loF, _, _⟩ := PK.push (ce0 0) hs 4 lo (by rw [← hK]; simp)
  have eA' : apK 192 18 K0 C0 ((cs.getD []).map encC) [.agg [I 0, .bool false, I 0, I 0, .snil, .snil, .snil, I 0, I 0, I 0, I 0, I 0, I 0, I 0, I 0, I 0, I 0, I 0]] = some (C, K) := eA
  have es := PK.c.els
  have k0 : K0[0]? = some ⟨0, 3, [pnC C0 F m], 0⟩ := by rw [← hK]; rfl
  have g0 : K[0]? = some ⟨0, 3, [pnC C0 F m], 0⟩ := by rw [pA 0 (by omega), ← hK]; rfl
  have g1 : K[1]? = some ⟨0, 16, [encX x], 0⟩ := by rw [pA 1 (by omega), ← hK]; rfl
  have g2 : K[2]? = some ⟨0, 3, [pnC .snil .snil 0], 0⟩ := by rw [pA 2 (by omega), ← hK]; rfl
  have g3 : K[3]? = some ⟨0, 2, [encRf ⟨0, 0⟩], 0⟩ := by rw [pA 3 (by omega), ← hK]; rfl
  obtain ⟨a, ha⟩ : ∃ a : Nat, (cs.getD []).length = a := ⟨_, rfl⟩
  have hal : a < (cs.getD [] ++ [ce0 0]).length := by simp; omega
  have hg : (cs.getD [] ++ [ce0 0])[a]? = some (ce0 0) := by rw [← ha]; simp
  obtain ⟨id, ver, rest, hCe, hh, hel, hix⟩ := PF.c.ix (t := 22) un22 sz62 (i := a) hal
  have hid4 : 4 ≤ id := loF id (.inl (by rw [hCe]; rfl))
  have hidl := (List.getElem?_eq_some_iff.1 hh).1
  have hput := fun o : Ob => (PF.set (k := 0) (fun i hi => by have := loF i hi; omega) o).put (n := a) (rest := rest) hCe (by show (K.set 0 o)[id]? = _; rw [List.getElem?_set_ne (by omega)]; exact hh) hal ⟨0, true, x⟩
  have hset : (cs.getD [] ++ [ce0 0]).set a ⟨0, true, x⟩ = cs.getD [] ++ [⟨0, true, x⟩] := by rw [List.set_append_right _ _ (by omega), ← ha]; simp
  simp only [hset] at hh hel hix hCe hput
  have hel2 : ((cs.getD [] ++ [ce0 0]).map encC ++ rest)[a]? = some (.agg [I 0, .bool false, I 0, I 0, .snil, .snil, .snil, I 0, I 0, I 0, I 0, I 0, I 0, I 0, I 0, I 0, I 0, I 0]) := by rw [List.getElem?_append_left (by simpa using hal), List.getElem?_map, hg]; rfl
  have hal2 : a < ((cs.getD [] ++ [ce0 0]).map encC ++ rest).length := by simp; omega
  have sa : ∀ e, (((cs.getD [] ++ [ce0 0]).map encC ++ rest).set a e)[a]? = some e := fun e => List.getElem?_set_self hal2
  have l0 : 0 < K.length := by omega
  have l2 : 2 < K.length := by omega
  have l3 : 3 < K.length := by omega
  have u0 : ∀ o, (K.set 0 o)[0]? = some o := fun o => List.getElem?_set_self l0
  have u1 : ∀ o, (K.set 0 o)[1]? = some ⟨0, 16, [encX x], 0⟩ := fun o => by rw [List.getElem?_set_ne (by omega), g1]
  have u4 : ∀ o, (K.set 0 o)[id]? = some ⟨ver, 18, (cs.getD [] ++ [ce0 0]).map encC ++ rest, 0⟩ := fun o => by rw [List.getElem?_set_ne (by omega), hh]
  have v4 : ∀ o o', ((K.set 0 o).set id o')[id]? = some o' := fun o o' => List.getElem?_set_self (by simpa using hidl)
  have v0 : ∀ o o', ((K.set 0 o).set id o')[0]? = some o := fun o o' => by rw [List.getElem?_set_ne (by omega), u0]
  have v2 : ∀ o o', ((K.set 0 o).set id o')[2]? = some ⟨0, 3, [pnC .snil .snil 0], 0⟩ := fun o o' => by rw [List.getElem?_set_ne (by omega), List.getElem?_set_ne (by omega), g2]
  have v1 : ∀ o o', ((K.set 0 o).set id o')[1]? = some ⟨0, 16, [encX x], 0⟩ := fun o o' => by rw [List.getElem?_set_ne (by omega), u1]
  have w4 : ∀ o o' p, (((K.set 0 o).set id o').set 2 p)[id]? = some o' := fun o o' p => by rw [List.getElem?_set_ne (by omega), v4]
  have w3 : ∀ o o' p, (((K.set 0 o).set id o').set 2 p)[3]? = some ⟨0, 2, [encRf ⟨0, 0⟩], 0⟩ := fun o o' p => by rw [List.getElem?_set_ne (by omega), List.getElem?_set_ne (by omega), List.getElem?_set_ne (by omega), g3]
  have y2 : ∀ o o' p q, ((((K.set 0 o).set id o').set 2 p).set 3 q)[2]? = some p := fun o o' p q => by rw [List.getElem?_set_ne (by omega)]; exact List.getElem?_set_self (by simpa using l2)
  have y3 : ∀ o o' p q, ((((K.set 0 o).set id o').set 2 p).set 3 q)[3]? = some q := fun o o' p q => List.getElem?_set_self (by simpa using l3)
  have hfin := fun o p q : Ob => ((hput o).set (k := 2) (fun i hi => by have := loF i hi; omega) p).set (k := 3) (fun i hi => by have := loF i hi; omega) q
  have x1 := fun o p q => (hfin o p q).exp.1
  have x2 := fun o p q => (hfin o p q).exp.2.1
  have x3 := (hfin ⟨0, 3, [pnC C F m], 0⟩ ⟨0, 3, [pnC C F m], 0⟩ ⟨0, 2, [encRf ⟨a, 0⟩], 0⟩).exp.2.2
  simp only [h0] at x1 x2 x3
  have hd2 := dr12_12; have hd3 := dr12_13
  simp [opsAt, opsIn, Try.f12] at hd2 hd3
  have hw2 := Wdraw hd2; have hw3 := Wdraw hd3
  clear hd2 hd3
  have k4 : decide (fr.getD [] = []) = true := dt h0
  have k3 : decide (((cs.getD []).length : Int) = m) = false := df h1
  have k3' : decide ((a : Int) = m) = false := df (by rw [← ha]; exact h1)
  have hCl : lenS C0 = some a := by rw [PK.c.len]; simp [ha]
  have hn1 := PK.c.one; have hn2 := PK.f.one; have hq1 := PK.c.cells; have hq2 := PK.f.cells
  have n3 := PF.c.one; have q3 := PF.c.cells
  generalize hEl : (cs.getD [] ++ [ce0 0]).map encC ++ rest = El at *
  refine ⟨pnC (encL 18 encC (oS (cs.getD [] ++ [⟨0, true, x⟩]) C)) (encL 1 I (oS [] F)) m, ?_, x3⟩
  generalize oS (cs.getD [] ++ [⟨0, true, x⟩]) C = oc at *
  generalize oS ([] : List Int) F = ofr at *
  rw [ha, fnc_at rfl, body_eq Try.func12 rfl rfl]
  simp only [List.map_append, List.map_cons, List.map_nil] at es eA'
  simp [argsσ, Vm.results, exc, exi, hM, ec, hK, h0, ha, k3, k3', k4, hn1, hn2, hq1, hq2, n3, q3, es, eA', hix, hCl, k0, g0, g1, g2, g3, l0, u0, u1, u4, v4, v0, v1, v2, w3, w4, y2, y3, hel2, hal2, sa, x1, x2, hw2, hw3, op_nilp, logL, loud, isE, drawChk, -List.map_append, -getElem?_pos]
theorem play_spec (cs : Option (List Ce)) (fr : Option (List Int)) (m : Int) (x : Fx) (hs : (cs.getD []).length ≤ 2 ^ 30) (hf : (fr.getD []).length ≤ 2 ^ 30) : Ql ⟨cs.getD [], fr.getD [], m⟩ x (fnc Try.prog cfg R 12 [pnC (encL 18 encC cs) (encL 1 I fr) m, encX x]) := by
  have no : (mayPn ⟨cs.getD [], fr.getD [], m⟩ = false ∨ ((fr.getD []) = [] ∧ ((cs.getD []).length : Int) = m)) → Ql ⟨cs.getD [], fr.getD [], m⟩ x (fnc Try.prog cfg R 12 [pnC (encL 18 encC cs) (encL 1 I fr) m, encX x]) := fun h => by
    refine ⟨_, play_no cs fr m x hs hf h, ?_⟩
    have : (layPn ⟨cs.getD [], fr.getD [], m⟩ x).1 = ⟨cs.getD [], fr.getD [], m⟩ := by
      unfold layPn
      rcases h with h | ⟨h1, h2⟩
      · rw [if_pos h]
      · by_cases k : mayPn ⟨cs.getD [], fr.getD [], m⟩ = false
        · rw [if_pos k]
        · rw [if_neg k]
          simp only
          rw [if_pos h1, if_pos h2]
    rw [this]
    exact ⟨cs, fr, rfl, rfl, rfl⟩
  cases k1 : mayPn ⟨cs.getD [], fr.getD [], m⟩
  · exact no (.inl k1)
  by_cases h0 : fr.getD [] = []
  · by_cases h1 : ((cs.getD []).length : Int) = m
    · exact no (.inr ⟨h0, h1⟩)
    · exact play_grow cs fr m x hs hf k1 h0 h1
  · exact play_used cs fr m x hs hf k1 h0
end Go.Proofs.YtopgmnjijioheaaW.Rg
