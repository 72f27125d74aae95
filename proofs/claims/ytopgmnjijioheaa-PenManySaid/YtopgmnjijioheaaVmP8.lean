/- A cell is changed: pen.Set. No conditions. -/
import Derived.Test.YtopgmnjijioheaaVmP7
set_option linter.unusedVariables false
set_option linter.unusedSimpArgs false
namespace Go.Proofs.YtopgmnjijioheaaW.Rg
open Go.Proofs.YtopgmnjijioheaaW.Vm Go.Proofs.YtopgmnjijioheaaW.Md
open Go Go.Proofs
/-- what Set and Drop hand back -/
def Qs (p : Pn × Int) (o : Option D) : Prop := ∃ d, o = some (.tup [d, I p.2]) ∧ IsP d p.1
theorem pset1_spec {K : List Ob} {a id ver n k : Nat} {L : List D} {c : Ce} {x : Fx} (hx : K[k]? = some ⟨0, 16, [encX x], 0⟩) (hh : K[id]? = some ⟨ver, 18, L, 0⟩) (hg : L[n]? = some (encC c)) :
    body Try.prog R 33 [.ptr a 0 0 0, .ptr id ver n 0, .ptr k 0 0 0] K = some (.tup [], K.set id ⟨ver, 18, L.set n (encC ⟨c.gen, c.used, x⟩), 0⟩) := by
  have hn := (List.getElem?_eq_some_iff.1 hg).1
  rw [body_eq Try.func33 rfl rfl]
  simp [argsσ, Vm.results, hx, hh, hg, hn, op_nilp, -getElem?_pos]
theorem change_no (cs : Option (List Ce)) (fr : Option (List Int)) (m : Int) (r : Rf) (clo : D) (H : List Ob) (hs : (cs.getD []).length ≤ 2 ^ 30) (hf : (fr.getD []).length ≤ 2 ^ 30) (h : mayPn ⟨cs.getD [], fr.getD [], m⟩ = false ∨ heldPn ⟨cs.getD [], fr.getD [], m⟩ r = false) :
    ∃ t, body Try.prog R 32 [pnC (encL 18 encC cs) (encL 1 I fr) m, encRf r, clo] H = some (.tup [pnC (encL 18 encC cs) (encL 1 I fr) m, I (if mayPn ⟨cs.getD [], fr.getD [], m⟩ = false then 1 else 121)], H ++ t) := by
  have hM := pmay_spec cs fr m hs hf
  have hH := held_spec cs fr m r hs
  have exc : ∀ (h : List Ob) (b : Option (List Ce)), exp1 h (encL 18 encC b) = some (encL 18 encC b) := fun h z => exp_clean (by simp) (by simp)
  have exi : ∀ (h : List Ob) (b : Option (List Int)), exp1 h (encL 1 I b) = some (encL 1 I b) := fun h z => exp_clean (by simp) (by simp)
  cases k1 : mayPn ⟨cs.getD [], fr.getD [], m⟩
  · rw [k1] at hM
    refine ⟨[⟨0, 3, [pnC (encL 18 encC cs) (encL 1 I fr) m], 0⟩, ⟨0, 2, [encRf r], 0⟩, ⟨0, 3, [pnC (encL 18 encC cs) (encL 1 I fr) m], 0⟩], ?_⟩
    rw [body_eq Try.func32 rfl rfl]
    simp [argsσ, Vm.results, exc, exi, hM]
  · rw [k1] at hM h
    have h := h.resolve_left (by decide)
    rw [h] at hH
    refine ⟨[⟨0, 3, [pnC (encL 18 encC cs) (encL 1 I fr) m], 0⟩, ⟨0, 2, [encRf r], 0⟩, ⟨0, 3, [pnC (encL 18 encC cs) (encL 1 I fr) m], 0⟩], ?_⟩
    rw [body_eq Try.func32 rfl rfl]
    simp [argsσ, Vm.results, exc, exi, hM, hH]
set_option maxHeartbeats 2000000 in
theorem change_set (cs : Option (List Ce)) (fr : Option (List Int)) (m : Int) (r : Rf) (x : Fx) (H : List Ob) {k : Nat} (hk : H[k]? = some ⟨0, 16, [encX x], 0⟩) (hs : (cs.getD []).length ≤ 2 ^ 30) (hf : (fr.getD []).length ≤ 2 ^ 30) (h : mayPn ⟨cs.getD [], fr.getD [], m⟩ = true) (h2 : heldPn ⟨cs.getD [], fr.getD [], m⟩ r = true) :
    ∃ C F H', body Try.prog R 32 [pnC (encL 18 encC cs) (encL 1 I fr) m, encRf r, .clo (.func 33) [] [.ptr k 0 0 0]] H = some (.tup [pnC C F m, I 0], H') ∧ Pv H' ⟨(cs.getD []).set r.ag.toNat ⟨r.gen, true, x⟩, fr.getD [], m⟩ C F ∧ (∀ i, i < H.length → H'[i]? = H[i]?) ∧ H.length ≤ H'.length ∧ (∀ i, At C i ∨ At F i → H.length ≤ i) := by
  have hM := pmay_spec cs fr m hs hf
  have hH := held_spec cs fr m r hs
  rw [h] at hM
  rw [h2] at hH
  obtain ⟨n, hn, hl, hg, hu, hge⟩ := held_ix h2
  simp only at hg hl
  have hkl := (List.getElem?_eq_some_iff.1 hk).1
  obtain ⟨C, F, t, ec, PV, lo⟩ := pclone_spec cs fr m (H ++ [⟨0, 3, [pnC (encL 18 encC cs) (encL 1 I fr) m], 0⟩, ⟨0, 2, [encRf r], 0⟩, ⟨0, 3, [pnC .snil .snil 0], 0⟩]) hs hf
  simp only [List.length_append, List.length_cons, List.length_nil] at lo
  simp only [List.append_assoc, List.cons_append, List.nil_append] at ec PV
  generalize cellAt ⟨cs.getD [], fr.getD [], m⟩ r.ag = c at *
  obtain ⟨K, hK⟩ : ∃ K : List Ob, H ++ ⟨0, 3, [pnC C F m], 0⟩ :: ⟨0, 2, [encRf r], 0⟩ :: ⟨0, 3, [pnC .snil .snil 0], 0⟩ :: t = K := ⟨_, rfl⟩
  have PK : Pv K ⟨cs.getD [], fr.getD [], m⟩ C F := by
    rw [← hK]
    have := PV.set (k := H.length) (fun i hi => by have := lo i hi; omega) ⟨0, 3, [pnC C F m], 0⟩
    simpa using this
  obtain ⟨id, ver, rest, hCe, hh, hel, hix⟩ := PK.c.ix (t := 22) un22 sz62 (i := n) hl
  have hid4 : H.length + 3 ≤ id := lo id (.inl (by rw [hCe]; rfl))
  have hidl := (List.getElem?_eq_some_iff.1 hh).1
  simp only at hh hix hCe
  rw [← hn] at hix
  have hel2 : ((cs.getD []).map encC ++ rest)[n]? = some (encC c) := by rw [List.getElem?_append_left (by simpa using hl), List.getElem?_map, hg]; rfl
  have gk : K[k]? = some ⟨0, 16, [encX x], 0⟩ := by rw [← hK, List.getElem?_append_left hkl, hk]
  have g0 : K[H.length]? = some ⟨0, 3, [pnC C F m], 0⟩ := by rw [← hK]; simp
  have g1 : K[H.length + 1]? = some ⟨0, 2, [encRf r], 0⟩ := by rw [← hK]; simp
  have g2 : K[H.length + 2]? = some ⟨0, 3, [pnC .snil .snil 0], 0⟩ := by rw [← hK]; simp
  have hK2 : H ++ ⟨0, 3, [pnC C F m], 0⟩ :: ⟨0, 2, [encRf r], 0⟩ :: ⟨0, 3, [pnC .snil .snil 0], 0⟩ :: t = K := hK
  have hS := pset1_spec (a := H.length) gk hh hel2
  have ec' : encC ⟨c.gen, c.used, x⟩ = encC ⟨r.gen, true, x⟩ := by rw [hu, hge]
  rw [ec'] at hS
  have hput := PK.put (n := n) (rest := rest) hCe hh hl ⟨r.gen, true, x⟩
  simp only at hput
  generalize ((cs.getD []).map encC ++ rest).set n (encC ⟨r.gen, true, x⟩) = El at *
  have u0 : ∀ o, (K.set id o)[H.length]? = some ⟨0, 3, [pnC C F m], 0⟩ := fun o => by rw [List.getElem?_set_ne (by omega), g0]
  have u2 : ∀ o, (K.set id o)[H.length + 2]? = some ⟨0, 3, [pnC .snil .snil 0], 0⟩ := fun o => by rw [List.getElem?_set_ne (by omega), g2]
  have v2 : ∀ o p, ((K.set id o).set (H.length + 2) p)[H.length + 2]? = some p := fun o p => List.getElem?_set_self (by have := (List.getElem?_eq_some_iff.1 g2).1; simpa using this)
  have hn1 := PK.c.one; have hn2 := PK.f.one; have hq1 := PK.c.cells; have hq2 := PK.f.cells
  refine ⟨C, F, (K.set id ⟨ver, 18, El, 0⟩).set (H.length + 2) ⟨0, 3, [pnC C F m], 0⟩, ?_, ?_, ?_, ?_, ?_⟩
  · rw [body_eq Try.func32 rfl rfl]
    simp [argsσ, Vm.results, hM, hH, ec, hK, g0, g1, g2, hix, hS, u0, u2, v2, hn1, hn2, hq1, hq2, -getElem?_pos]
  · rw [hn, Int.toNat_natCast]
    exact hput.set (k := H.length + 2) (fun i hi => by have := lo i hi; omega) _
  · intro i hi
    rw [List.getElem?_set_ne (by omega), List.getElem?_set_ne (by omega), ← hK, List.getElem?_append_left hi]
  · rw [List.length_set, List.length_set, ← hK]; simp
  · intro i hi; have := lo i hi; omega
end Go.Proofs.YtopgmnjijioheaaW.Rg
