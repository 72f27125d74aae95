/- The document: a cell is set, dropped. No conditions. -/
import Derived.Test.YtopgmnjijioheaaVmP11
set_option linter.unusedVariables false
set_option linter.unusedSimpArgs false
namespace Go.Proofs.YtopgmnjijioheaaW.Rg
open Go.Proofs.YtopgmnjijioheaaW.Vm Go.Proofs.YtopgmnjijioheaaW.Md
open Go Go.Proofs
set_option maxHeartbeats 2000000 in
theorem rset_spec (cs : Option (List Ce)) (fr : Option (List Int)) (m : Int) (r : Rf) (x : Fx) (hs : (cs.getD []).length ≤ 2 ^ 30) (hf : (fr.getD []).length ≤ 2 ^ 30) : Qs (setPn ⟨cs.getD [], fr.getD [], m⟩ r x) (fnc Try.prog cfg R 15 [pnC (encL 18 encC cs) (encL 1 I fr) m, encRf r, encX x]) := by
  have hM := rmay_spec cs fr m hs hf
  have hH := rheld_spec cs fr m r hs
  have exc : ∀ (h : List Ob) (b : Option (List Ce)), exp1 h (encL 18 encC b) = some (encL 18 encC b) := fun h z => exp_clean (by simp) (by simp)
  have exi : ∀ (h : List Ob) (b : Option (List Int)), exp1 h (encL 1 I b) = some (encL 1 I b) := fun h z => exp_clean (by simp) (by simp)
  unfold setPn
  cases k1 : mayPn ⟨cs.getD [], fr.getD [], m⟩
  · rw [k1] at hM
    rw [if_pos rfl]
    refine ⟨_, ?_, cs, fr, rfl, rfl, rfl⟩
    rw [fnc_at rfl, body_eq Try.func15 rfl rfl]
    simp [argsσ, Vm.results, exc, exi, hM]
  rw [k1] at hM
  rw [if_neg (by decide)]
  cases k2 : heldPn ⟨cs.getD [], fr.getD [], m⟩ r
  · rw [k2] at hH
    rw [if_pos rfl]
    refine ⟨_, ?_, cs, fr, rfl, rfl, rfl⟩
    rw [fnc_at rfl, body_eq Try.func15 rfl rfl]
    simp [argsσ, Vm.results, exc, exi, hM, hH]
  rw [k2] at hH
  rw [if_neg (by decide)]
  obtain ⟨n, hn, hl, hg, hu, hge⟩ := held_ix k2
  simp only at hg hl
  generalize cellAt ⟨cs.getD [], fr.getD [], m⟩ r.ag = c at *
  obtain ⟨C, F, t, ec, PV, lo⟩ := copied_spec cs fr m [⟨0, 3, [pnC (encL 18 encC cs) (encL 1 I fr) m], 0⟩, ⟨0, 2, [encRf r], 0⟩, ⟨0, 16, [encX x], 0⟩, ⟨0, 3, [pnC .snil .snil 0], 0⟩] hs hf
  simp only [List.length_cons, List.length_nil] at lo
  obtain ⟨q, hq⟩ : ∃ q, t.length + 1 + 1 + 1 + 1 = q := ⟨_, rfl⟩
  obtain ⟨K, hK⟩ : ∃ K : List Ob, ⟨0, 3, [pnC (encL 18 encC cs) (encL 1 I fr) m], 0⟩ :: ⟨0, 2, [encRf r], 0⟩ :: ⟨0, 16, [encX x], 0⟩ :: ⟨0, 3, [pnC .snil .snil 0], 0⟩ :: (t ++ [⟨0, 3, [pnC C F m], 0⟩]) = K := ⟨_, rfl⟩
  have gz : ∀ a b c d o : Ob, (a :: b :: c :: d :: (t ++ [o]))[q]? = some o := fun a b c d o => by rw [← hq]; simp
  have sz : ∀ a b c d o o' : Ob, (a :: b :: c :: d :: (t ++ [o])).set q o' = a :: b :: c :: d :: (t ++ [o']) := fun a b c d o o' => by rw [← hq]; simp
  have hlK : K.length = q + 1 := by rw [← hK, ← hq]; simp
  have PK : Pv K ⟨cs.getD [], fr.getD [], m⟩ C F := by
    have := PV.app [⟨0, 3, [pnC C F m], 0⟩]
    rw [← hK]; simpa using this
  have nl : ∀ i, At C i ∨ At F i → i < q := fun i hi => by
    rcases hi with h1 | h1
    · have := PV.c.lt h1; simp at this; omega
    · have := PV.f.lt h1; simp at this; omega
  obtain ⟨id, ver, rest, hCe, hh, hel, hix⟩ := PK.c.ix (t := 22) un22 sz62 (i := n) hl
  have hid4 : 4 ≤ id := lo id (.inl (by rw [hCe]; rfl))
  have hidq : id < q := nl id (.inl (by rw [hCe]; rfl))
  simp only at hh hix hCe
  rw [← hn] at hix
  have hel2 : ((cs.getD []).map encC ++ rest)[n]? = some (encC c) := by rw [List.getElem?_append_left (by simpa using hl), List.getElem?_map, hg]; rfl
  have hal2 : n < ((cs.getD []).map encC ++ rest).length := by simp; omega
  have hput := PK.put (n := n) (rest := rest) hCe hh hl ⟨r.gen, true, x⟩
  simp only at hput
  generalize hEl : (cs.getD []).map encC ++ rest = El at *
  have g0 : K[q]? = some ⟨0, 3, [pnC C F m], 0⟩ := by rw [← hK]; exact gz _ _ _ _ _
  have g1 : K[1]? = some ⟨0, 2, [encRf r], 0⟩ := by rw [← hK]; rfl
  have g2 : K[2]? = some ⟨0, 16, [encX x], 0⟩ := by rw [← hK]; rfl
  have g3 : K[3]? = some ⟨0, 3, [pnC .snil .snil 0], 0⟩ := by rw [← hK]; rfl
  have u0 : ∀ o, (K.set id o)[q]? = some ⟨0, 3, [pnC C F m], 0⟩ := fun o => by rw [List.getElem?_set_ne (by omega), g0]
  have u3 : ∀ o, (K.set id o)[3]? = some ⟨0, 3, [pnC .snil .snil 0], 0⟩ := fun o => by rw [List.getElem?_set_ne (by omega), g3]
  have v3 : ∀ o p, ((K.set id o).set 3 p)[3]? = some p := fun o p => List.getElem?_set_self (by rw [List.length_set]; omega)
  have hfin := fun o : Ob => hput.set (k := 3) (fun i hi => by have := lo i hi; omega) o
  have x1 := fun o => (hfin o).exp.1
  have x2 := fun o => (hfin o).exp.2.1
  have x3 := (hfin ⟨0, 3, [pnC C F m], 0⟩).exp.2.2
  simp only at x1 x2
  have hn1 := PK.c.one; have hn2 := PK.f.one; have hq1 := PK.c.cells; have hq2 := PK.f.cells
  have hnn : r.ag.toNat = n := by omega
  rw [hnn]
  refine ⟨_, ?_, x3⟩
  simp only
  generalize oS ((cs.getD []).set n ⟨r.gen, true, x⟩) C = oc at *
  generalize oS (fr.getD []) F = ofr at *
  clear hput hfin x3
  rw [fnc_at rfl, body_eq Try.func15 rfl rfl]
  simp [argsσ, Vm.results, exc, exi, hM, hH, ec, hq, gz, sz, hK, g0, g1, g2, g3, u0, u3, v3, hix, hh, hel2, hal2, hn1, hn2, hq1, hq2, x1, x2, -List.map_append, -getElem?_pos]
set_option maxHeartbeats 2000000 in
theorem rdrop_spec (cs : Option (List Ce)) (fr : Option (List Int)) (m : Int) (r : Rf) (hs : (cs.getD []).length ≤ 2 ^ 30) (hf : (fr.getD []).length ≤ 2 ^ 30) : Qs (dropPn ⟨cs.getD [], fr.getD [], m⟩ r) (fnc Try.prog cfg R 17 [pnC (encL 18 encC cs) (encL 1 I fr) m, encRf r]) := by
  have hM := rmay_spec cs fr m hs hf
  have hH := rheld_spec cs fr m r hs
  have exc : ∀ (h : List Ob) (b : Option (List Ce)), exp1 h (encL 18 encC b) = some (encL 18 encC b) := fun h z => exp_clean (by simp) (by simp)
  have exi : ∀ (h : List Ob) (b : Option (List Int)), exp1 h (encL 1 I b) = some (encL 1 I b) := fun h z => exp_clean (by simp) (by simp)
  unfold dropPn
  cases k1 : mayPn ⟨cs.getD [], fr.getD [], m⟩
  · rw [k1] at hM
    rw [if_pos rfl]
    refine ⟨_, ?_, cs, fr, rfl, rfl, rfl⟩
    rw [fnc_at rfl, body_eq Try.func17 rfl rfl]
    simp [argsσ, Vm.results, exc, exi, hM]
  rw [k1] at hM
  rw [if_neg (by decide)]
  cases k2 : heldPn ⟨cs.getD [], fr.getD [], m⟩ r
  · rw [k2] at hH
    rw [if_pos rfl]
    refine ⟨_, ?_, cs, fr, rfl, rfl, rfl⟩
    rw [fnc_at rfl, body_eq Try.func17 rfl rfl]
    simp [argsσ, Vm.results, exc, exi, hM, hH]
  rw [k2] at hH
  rw [if_neg (by decide)]
  obtain ⟨n, hn, hl, hg, hu, hge⟩ := held_ix k2
  have hgn := may_gen (p := ⟨cs.getD [], fr.getD [], m⟩) k1 hl
  simp only at hg hl
  rw [← hn] at hgn
  generalize cellAt ⟨cs.getD [], fr.getD [], m⟩ r.ag = c at *
  rw [hge] at hgn
  obtain ⟨C, F, t, ec, PV, lo⟩ := copied_spec cs fr m [⟨0, 3, [pnC (encL 18 encC cs) (encL 1 I fr) m], 0⟩, ⟨0, 2, [encRf r], 0⟩, ⟨0, 3, [pnC .snil .snil 0], 0⟩] hs hf
  simp only [List.length_cons, List.length_nil] at lo
  obtain ⟨q, hq⟩ : ∃ q, t.length + 1 + 1 + 1 = q := ⟨_, rfl⟩
  obtain ⟨K, hK⟩ : ∃ K : List Ob, ⟨0, 3, [pnC (encL 18 encC cs) (encL 1 I fr) m], 0⟩ :: ⟨0, 2, [encRf r], 0⟩ :: ⟨0, 3, [pnC .snil .snil 0], 0⟩ :: (t ++ [⟨0, 3, [pnC C F m], 0⟩]) = K := ⟨_, rfl⟩
  have gz : ∀ a b d o : Ob, (a :: b :: d :: (t ++ [o]))[q]? = some o := fun a b d o => by rw [← hq]; simp
  have sz : ∀ a b d o o' : Ob, (a :: b :: d :: (t ++ [o])).set q o' = a :: b :: d :: (t ++ [o']) := fun a b d o o' => by rw [← hq]; simp
  have hlK : K.length = q + 1 := by rw [← hK, ← hq]; simp
  have PK : Pv K ⟨cs.getD [], fr.getD [], m⟩ C F := by
    have := PV.app [⟨0, 3, [pnC C F m], 0⟩]
    rw [← hK]; simpa using this
  have nl : ∀ i, At C i ∨ At F i → i < q := fun i hi => by
    rcases hi with h1 | h1
    · have := PV.c.lt h1; simp at this; omega
    · have := PV.f.lt h1; simp at this; omega
  obtain ⟨id, ver, rest, hCe, hh, hel, hix⟩ := PK.c.ix (t := 22) un22 sz62 (i := n) hl
  have hid3 : 3 ≤ id := lo id (.inl (by rw [hCe]; rfl))
  have hidq : id < q := nl id (.inl (by rw [hCe]; rfl))
  simp only at hh hix hCe
  rw [← hn] at hix
  have hel2 : ((cs.getD []).map encC ++ rest)[n]? = some (encC c) := by rw [List.getElem?_append_left (by simpa using hl), List.getElem?_map, hg]; rfl
  have hal2 : n < ((cs.getD []).map encC ++ rest).length := by simp; omega
  have hput := PK.put (n := n) (rest := rest) hCe hh hl ⟨(r.gen + 1) % 4294967296, false, fx0⟩
  simp only at hput
  rw [zC_eq] at hput
  generalize hEl : (cs.getD []).map encC ++ rest = El at *
  obtain ⟨F', K2, eA, iA, aA, pA, lA⟩ := hput.f.pushD 8 [I r.ag] (by simp; omega)
  have es := hput.f.els
  rw [List.length_set] at lA
  have nlF : ∀ i, At F i → i ≠ q := fun i hi => by have := nl i (.inr hi); omega
  have k2' : ∀ i, i < K.length → i ≠ id → ¬ At F i → K2[i]? = K[i]? := fun i hi hne hF => by
    rw [pA i (by rw [List.length_set]; omega) hF, List.getElem?_set_ne (Ne.symm hne)]
  have P2 : Pv K2 ⟨(cs.getD []).set n ⟨(r.gen + 1) % 4294967296, false, fx0⟩, fr.getD [] ++ [r.ag], m⟩ C F' := by
    refine ⟨hput.c.keep fun i hi => pA i (hput.c.lt hi) (hput.d i hi), by show IsS K2 1 ((fr.getD [] ++ [r.ag]).map I) F'; rw [List.map_append]; exact iA, fun i h1 h2 => ?_⟩
    rcases aA i h2 with h3 | h3
    · exact hput.d i h1 h3
    · have := hput.c.lt h1; omega
  have lo2 : ∀ i, At C i ∨ At F' i → 3 ≤ i ∧ i ≠ q := fun i hi => by
    rcases hi with h1 | h1
    · have := lo i (.inl h1); have := nl i (.inl h1); omega
    · rcases aA i h1 with h3 | h3
      · have := lo i (.inr h3); have := nl i (.inr h3); omega
      · rw [List.length_set] at h3; omega
  have hw : IntKind.i64.wrap (r.gen + 1) = r.gen + 1 := wr (by omega) (by omega)
  have hb : ∀ s t, binD Try.prog .rem 3 s t (I (r.gen + 1)) (I 4294967296) = some (I ((r.gen + 1) % 4294967296)) := fun s t => by
    have h := bin_rem (P := Try.prog) 3 s t .i64 (r.gen + 1) 4294967296 (by decide)
    rw [Int.tmod_eq_emod_of_nonneg (by omega)] at h
    exact h
  have g0 : K[q]? = some ⟨0, 3, [pnC C F m], 0⟩ := by rw [← hK]; exact gz _ _ _ _
  have g1 : K[1]? = some ⟨0, 2, [encRf r], 0⟩ := by rw [← hK]; rfl
  have g2 : K[2]? = some ⟨0, 3, [pnC .snil .snil 0], 0⟩ := by rw [← hK]; rfl
  have u0 : ∀ o, (K.set id o)[q]? = some ⟨0, 3, [pnC C F m], 0⟩ := fun o => by rw [List.getElem?_set_ne (by omega), g0]
  have u1 : ∀ o, (K.set id o)[1]? = some ⟨0, 2, [encRf r], 0⟩ := fun o => by rw [List.getElem?_set_ne (by omega), g1]
  have e0 : K2[q]? = some ⟨0, 3, [pnC C F m], 0⟩ := by rw [k2' q (by omega) (by omega) (fun e => nlF q e rfl), g0]
  have e2 : K2[2]? = some ⟨0, 3, [pnC .snil .snil 0], 0⟩ := by rw [k2' 2 (by omega) (by omega) (fun e => by have := lo 2 (.inr e); omega), g2]
  have hqK : q < K2.length := by omega
  have v0 : ∀ o, (K2.set q o)[q]? = some o := fun o => List.getElem?_set_self hqK
  have v2 : ∀ o, (K2.set q o)[2]? = some ⟨0, 3, [pnC .snil .snil 0], 0⟩ := fun o => by rw [List.getElem?_set_ne (by omega), e2]
  have w2 : ∀ o p, ((K2.set q o).set 2 p)[2]? = some p := fun o p => List.getElem?_set_self (by rw [List.length_set]; omega)
  have hfin := fun o p : Ob => (P2.set (k := q) (fun i hi => (lo2 i hi).2) o).set (k := 2) (fun i hi => by have := lo2 i hi; omega) p
  have x1 := fun o p => (hfin o p).exp.1
  have x2 := fun o p => (hfin o p).exp.2.1
  have x3 := (hfin ⟨0, 3, [pnC C F' m], 0⟩ ⟨0, 3, [pnC C F' m], 0⟩).exp.2.2
  simp only at x1 x2
  have hn1 := PK.c.one; have hn2 := PK.f.one; have hq1 := PK.c.cells; have hq2 := PK.f.cells
  have nA := iA.one; have cA := iA.cells
  have hnn : r.ag.toNat = n := by omega
  rw [hnn]
  refine ⟨_, ?_, x3⟩
  simp only
  generalize oS ((cs.getD []).set n ⟨(r.gen + 1) % 4294967296, false, fx0⟩) C = oc at *
  generalize oS (fr.getD [] ++ [r.ag]) F' = ofr at *
  clear hput hfin x3 P2 iA aA pA
  rw [fnc_at rfl, body_eq Try.func17 rfl rfl]
  simp [argsσ, Vm.results, exc, exi, hM, hH, ec, hq, gz, sz, hK, g0, g1, g2, u0, u1, e0, e2, v0, v2, w2, hw, hb, hix, hh, hel2, hal2, es, eA, hn1, hn2, hq1, hq2, nA, cA, x1, x2, -List.map_append, -getElem?_pos]
end Go.Proofs.YtopgmnjijioheaaW.Rg
