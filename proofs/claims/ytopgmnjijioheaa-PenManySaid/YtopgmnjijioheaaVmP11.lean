/- pen.Drop. No conditions. -/
import Derived.Test.YtopgmnjijioheaaVmP10
set_option linter.unusedVariables false
set_option linter.unusedSimpArgs false
namespace Go.Proofs.YtopgmnjijioheaaW.Rg
open Go.Proofs.YtopgmnjijioheaaW.Vm Go.Proofs.YtopgmnjijioheaaW.Md
open Go Go.Proofs
@[reducible] def zC (g : Int) : D := .agg [I g, .bool false, I 0, I 0, .snil, .snil, .snil, I 0, I 0, I 0, I 0, I 0, I 0, I 0, I 0, I 0, I 0, I 0]
theorem zC_eq (g : Int) : encC ⟨g, false, fx0⟩ = zC g := rfl
theorem pdrop1_spec {K K2 : List Ob} {a id ver n k : Nat} {L xs : List D} {c : Ce} {C F F' : D} {m : Int} {r : Rf} (ha : K[a]? = some ⟨0, 3, [pnC C F m], 0⟩) (hk : K[k]? = some ⟨0, 2, [encRf r], 0⟩) (hh : K[id]? = some ⟨ver, 18, L, 0⟩) (hg : L[n]? = some (encC c)) (hai : id ≠ a) (hki : id ≠ k)
    (h0 : 0 ≤ c.gen) (h1 : c.gen ≤ 4294967295) (es : elsZ (K.set id ⟨ver, 18, L.set n (zC ((c.gen + 1) % 4294967296)), 0⟩) 1 F = some xs) (nF : F.one = true) (cF : F.cells = [F]) (nC : C.one = true) (cC : C.cells = [C]) (nF' : F'.one = true) (cF' : F'.cells = [F']) (bqF : beq F F = true) (bqC : beq C C = true)
    (eA : apK 8 1 (K.set id ⟨ver, 18, L.set n (zC ((c.gen + 1) % 4294967296)), 0⟩) F xs [I r.ag] = some (F', K2)) (hK2 : K2[a]? = some ⟨0, 3, [pnC C F m], 0⟩) :
    body Try.prog R 35 [.ptr a 0 0 0, .ptr id ver n 0, .ptr k 0 0 0] K = some (.tup [], K2.set a ⟨0, 3, [pnC C F' m], 0⟩) := by
  have hn := (List.getElem?_eq_some_iff.1 hg).1
  have hal := (List.getElem?_eq_some_iff.1 hK2).1
  have hw : IntKind.i64.wrap (c.gen + 1) = c.gen + 1 := wr (by omega) (by omega)
  have hb := fun s t => band_mask s t (c.gen + 1) (by omega) (by omega)
  have u0 : ∀ o, (K.set id o)[a]? = some ⟨0, 3, [pnC C F m], 0⟩ := fun o => by rw [List.getElem?_set_ne hai, ha]
  have u1 : ∀ o, (K.set id o)[k]? = some ⟨0, 2, [encRf r], 0⟩ := fun o => by rw [List.getElem?_set_ne hki, hk]
  have v0 : ∀ o, (K2.set a o)[a]? = some o := fun o => List.getElem?_set_self hal
  have hd := dr35_1
  simp [opsAt, opsIn, Try.f35] at hd
  have hdw := Wdraw hd
  clear hd
  rw [body_eq Try.func35 rfl rfl]
  simp [argsσ, Vm.results, ha, hk, hh, hg, hn, hw, hb, u0, u1, v0, es, eA, hK2, nF, cF, nC, cC, nF', cF', bqF, bqC, hdw, op_nilp, logL, loud, isE, drawChk, -getElem?_pos]
set_option maxHeartbeats 2000000 in
theorem change_drop (cs : Option (List Ce)) (fr : Option (List Int)) (m : Int) (r : Rf) (H : List Ob) {k : Nat} (hk : H[k]? = some ⟨0, 2, [encRf r], 0⟩) (hs : (cs.getD []).length ≤ 2 ^ 30) (hf : (fr.getD []).length ≤ 2 ^ 30) (h : mayPn ⟨cs.getD [], fr.getD [], m⟩ = true) (h2 : heldPn ⟨cs.getD [], fr.getD [], m⟩ r = true) :
    ∃ C F H', body Try.prog R 32 [pnC (encL 18 encC cs) (encL 1 I fr) m, encRf r, .clo (.func 35) [] [.ptr k 0 0 0]] H = some (.tup [pnC C F m, I 0], H') ∧ Pv H' ⟨(cs.getD []).set r.ag.toNat ⟨(r.gen + 1) % 4294967296, false, fx0⟩, fr.getD [] ++ [r.ag], m⟩ C F ∧ (∀ i, i < H.length → H'[i]? = H[i]?) ∧ H.length ≤ H'.length ∧ (∀ i, At C i ∨ At F i → H.length ≤ i) := by
  have hM := pmay_spec cs fr m hs hf
  have hH := held_spec cs fr m r hs
  rw [h] at hM
  rw [h2] at hH
  obtain ⟨n, hn, hl, hg, hu, hge⟩ := held_ix h2
  have hgn := may_gen (p := ⟨cs.getD [], fr.getD [], m⟩) h hl
  simp only at hg hl
  rw [← hn] at hgn
  have hkl := (List.getElem?_eq_some_iff.1 hk).1
  obtain ⟨C, F, t, ec, PV, lo⟩ := pclone_spec cs fr m (H ++ [⟨0, 3, [pnC (encL 18 encC cs) (encL 1 I fr) m], 0⟩, ⟨0, 2, [encRf r], 0⟩, ⟨0, 3, [pnC .snil .snil 0], 0⟩]) hs hf
  simp only [List.length_append, List.length_cons, List.length_nil] at lo
  simp only [List.append_assoc, List.cons_append, List.nil_append] at ec PV
  generalize cellAt ⟨cs.getD [], fr.getD [], m⟩ r.ag = c at *
  obtain ⟨K, hK⟩ : ∃ K : List Ob, H ++ ⟨0, 3, [pnC C F m], 0⟩ :: ⟨0, 2, [encRf r], 0⟩ :: ⟨0, 3, [pnC .snil .snil 0], 0⟩ :: t = K := ⟨_, rfl⟩
  have PK : Pv K ⟨cs.getD [], fr.getD [], m⟩ C F := by
    rw [← hK]
    have := PV.set (k := H.length) (fun i hi => by have := lo i hi; omega) ⟨0, 3, [pnC C F m], 0⟩
    simpa using this
  obtain ⟨id, ver, rest, hCe, hh, hel, hix⟩ := PK.c.ix (t := 22) un22 sz62 (i := n) hl
  have hid4 : H.length + 3 ≤ id := lo id (.inl (by rw [hCe]; rfl))
  have hidl := (List.getElem?_eq_some_iff.1 hh).1
  simp only at hh hix hCe
  rw [← hn] at hix
  have hel2 : ((cs.getD []).map encC ++ rest)[n]? = some (encC c) := by rw [List.getElem?_append_left (by simpa using hl), List.getElem?_map, hg]; rfl
  have gk : K[k]? = some ⟨0, 2, [encRf r], 0⟩ := by rw [← hK, List.getElem?_append_left hkl, hk]
  have g0 : K[H.length]? = some ⟨0, 3, [pnC C F m], 0⟩ := by rw [← hK]; simp
  have g1 : K[H.length + 1]? = some ⟨0, 2, [encRf r], 0⟩ := by rw [← hK]; simp
  have g2 : K[H.length + 2]? = some ⟨0, 3, [pnC .snil .snil 0], 0⟩ := by rw [← hK]; simp
  have hlK : H.length + 3 ≤ K.length := by rw [← hK]; simp
  have hput := PK.put (n := n) (rest := rest) hCe hh hl ⟨(c.gen + 1) % 4294967296, false, fx0⟩
  simp only at hput
  rw [zC_eq] at hput
  generalize hEl : ((cs.getD []).map encC ++ rest).set n (zC ((c.gen + 1) % 4294967296)) = El at *
  obtain ⟨F', K2, eA, iA, aA, pA, lA⟩ := hput.f.pushD 8 [I r.ag] (by simp; omega)
  rw [List.length_set] at lA
  have k2 : ∀ i, i < H.length + 3 → K2[i]? = K[i]? := fun i hi => by
    rw [pA i (by rw [List.length_set]; omega) (fun e => by have := lo i (.inr e); omega), List.getElem?_set_ne (by omega)]
  have P2 : Pv K2 ⟨(cs.getD []).set n ⟨(c.gen + 1) % 4294967296, false, fx0⟩, fr.getD [] ++ [r.ag], m⟩ C F' := by
    refine ⟨hput.c.keep fun i hi => pA i (hput.c.lt hi) (hput.d i hi), by show IsS K2 1 ((fr.getD [] ++ [r.ag]).map I) F'; rw [List.map_append]; exact iA, fun i h1 h2 => ?_⟩
    rcases aA i h2 with h3 | h3
    · exact hput.d i h1 h3
    · have := hput.c.lt h1; omega
  have lo2 : ∀ i, At C i ∨ At F' i → H.length + 3 ≤ i := fun i hi => by
    rcases hi with h1 | h1
    · exact lo i (.inl h1)
    · rcases aA i h1 with h3 | h3
      · exact lo i (.inr h3)
      · rw [List.length_set] at h3; omega
  have hS := pdrop1_spec (m := m) (xs := (fr.getD []).map I) g0 gk hh hel2 (by omega) (by omega) hgn.1 hgn.2 (by rw [hEl]; exact hput.f.els) PK.f.one PK.f.cells PK.c.one PK.c.cells iA.one iA.cells PK.f.bq PK.c.bq (by rw [hEl]; exact eA) (by rw [k2 _ (by omega), g0])
  have v0 : ∀ o, (K2.set H.length o)[H.length]? = some o := fun o => List.getElem?_set_self (by omega)
  have v2 : ∀ o, (K2.set H.length o)[H.length + 2]? = some ⟨0, 3, [pnC .snil .snil 0], 0⟩ := fun o => by rw [List.getElem?_set_ne (by omega), k2 _ (by omega), g2]
  have w2 : ∀ o p, ((K2.set H.length o).set (H.length + 2) p)[H.length + 2]? = some p := fun o p => List.getElem?_set_self (by rw [List.length_set]; omega)
  have hn1 := PK.c.one; have hn2 := PK.f.one; have hq1 := PK.c.cells; have hq2 := PK.f.cells
  have nA := iA.one; have cA := iA.cells
  refine ⟨C, F', (K2.set H.length ⟨0, 3, [pnC C F' m], 0⟩).set (H.length + 2) ⟨0, 3, [pnC C F' m], 0⟩, ?_, ?_, ?_, ?_, ?_⟩
  · clear hput P2 iA eA aA pA lA
    rw [body_eq Try.func32 rfl rfl]
    simp [argsσ, Vm.results, hM, hH, ec, hK, g0, g1, g2, hix, hS, v0, v2, w2, hn1, hn2, hq1, hq2, nA, cA, -getElem?_pos]
  · rw [hn, Int.toNat_natCast, ← hge]
    rw [hn] at P2
    exact (P2.set (k := H.length) (fun i hi => by have := lo2 i hi; omega) _).set (k := H.length + 2) (fun i hi => by have := lo2 i hi; omega) _
  · intro i hi
    rw [List.getElem?_set_ne (by omega), List.getElem?_set_ne (by omega), k2 i (by omega), ← hK, List.getElem?_append_left hi]
  · rw [List.length_set, List.length_set]; omega
  · intro i hi; have := lo2 i hi; omega
theorem pdrop_spec (cs : Option (List Ce)) (fr : Option (List Int)) (m : Int) (r : Rf) (hs : (cs.getD []).length ≤ 2 ^ 30) (hf : (fr.getD []).length ≤ 2 ^ 30) : Qs (dropPn ⟨cs.getD [], fr.getD [], m⟩ r) (fnc Try.prog cfg R 16 [pnC (encL 18 encC cs) (encL 1 I fr) m, encRf r]) := by
  have exc : ∀ (h : List Ob) (b : Option (List Ce)), exp1 h (encL 18 encC b) = some (encL 18 encC b) := fun h z => exp_clean (by simp) (by simp)
  have exi : ∀ (h : List Ob) (b : Option (List Int)), exp1 h (encL 1 I b) = some (encL 1 I b) := fun h z => exp_clean (by simp) (by simp)
  have no : (mayPn ⟨cs.getD [], fr.getD [], m⟩ = false ∨ heldPn ⟨cs.getD [], fr.getD [], m⟩ r = false) → Qs (dropPn ⟨cs.getD [], fr.getD [], m⟩ r) (fnc Try.prog cfg R 16 [pnC (encL 18 encC cs) (encL 1 I fr) m, encRf r]) := fun h => by
    obtain ⟨t, ht⟩ := change_no cs fr m r (.clo (.func 35) [] [.ptr 1 0 0 0]) [⟨0, 3, [pnC (encL 18 encC cs) (encL 1 I fr) m], 0⟩, ⟨0, 2, [encRf r], 0⟩, ⟨0, 3, [pnC .snil .snil 0], 0⟩] hs hf h
    have e : dropPn ⟨cs.getD [], fr.getD [], m⟩ r = (⟨cs.getD [], fr.getD [], m⟩, if mayPn ⟨cs.getD [], fr.getD [], m⟩ = false then 1 else 121) := by
      unfold dropPn
      rcases h with h | h
      · rw [if_pos h, if_pos h]
      · by_cases k : mayPn ⟨cs.getD [], fr.getD [], m⟩ = false
        · rw [if_pos k, if_pos k]
        · rw [if_neg k, if_pos h, if_neg k]
    rw [e]
    generalize (if mayPn ⟨cs.getD [], fr.getD [], m⟩ = false then (1 : Int) else 121) = er at *
    refine ⟨_, ?_, cs, fr, rfl, rfl, rfl⟩
    rw [fnc_at rfl, body_eq Try.func16 rfl rfl]
    simp [argsσ, Vm.results, exc, exi, ht, op_mkf]
  cases k1 : mayPn ⟨cs.getD [], fr.getD [], m⟩
  · exact no (.inl k1)
  cases k2 : heldPn ⟨cs.getD [], fr.getD [], m⟩ r
  · exact no (.inr k2)
  have e : dropPn ⟨cs.getD [], fr.getD [], m⟩ r = (⟨(cs.getD []).set r.ag.toNat ⟨(r.gen + 1) % 4294967296, false, fx0⟩, fr.getD [] ++ [r.ag], m⟩, 0) := by
    unfold dropPn; rw [if_neg (by rw [k1]; decide), if_neg (by rw [k2]; decide)]
  obtain ⟨C, F, H', ec, PV, hk, hlen, lo⟩ := change_drop cs fr m r [⟨0, 3, [pnC (encL 18 encC cs) (encL 1 I fr) m], 0⟩, ⟨0, 2, [encRf r], 0⟩, ⟨0, 3, [pnC .snil .snil 0], 0⟩] (k := 1) rfl hs hf k1 k2
  simp only [List.length_cons, List.length_nil] at hk hlen lo
  have g2 : H'[2]? = some ⟨0, 3, [pnC .snil .snil 0], 0⟩ := hk 2 (by omega)
  have v2 : ∀ p, (H'.set 2 p)[2]? = some p := fun p => List.getElem?_set_self (by omega)
  have hfin := fun o : Ob => PV.set (k := 2) (fun i hi => by have := lo i hi; omega) o
  have x1 := fun o => (hfin o).exp.1
  have x2 := fun o => (hfin o).exp.2.1
  have x3 := (hfin ⟨0, 3, [pnC C F m], 0⟩).exp.2.2
  have n1 := PV.c.one; have n2 := PV.f.one; have q1 := PV.c.cells; have q2 := PV.f.cells
  rw [e]
  refine ⟨_, ?_, x3⟩
  simp only at x1 x2
  generalize oS ((cs.getD []).set r.ag.toNat ⟨(r.gen + 1) % 4294967296, false, fx0⟩) C = oc at *
  generalize oS (fr.getD [] ++ [r.ag]) F = ofr at *
  rw [fnc_at rfl, body_eq Try.func16 rfl rfl]
  simp [argsσ, Vm.results, exc, exi, ec, op_mkf, g2, v2, n1, n2, q1, q2, x1, x2, -getElem?_pos]
end Go.Proofs.YtopgmnjijioheaaW.Rg
