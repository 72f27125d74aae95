/- A frame is laid. No conditions. -/
import Derived.Test.YtifmjomfoilnnaaGreatVmXB
set_option linter.unusedVariables false
set_option linter.unusedSimpArgs false
set_option maxRecDepth 10000
namespace Go.Proofs.YtifmjomfoilnnaaGreatW.Rg
open Go.Proofs.YtifmjomfoilnnaaGreatW.Vm Go.Proofs.YtifmjomfoilnnaaGreatW.Md
open Go Go.Proofs
/-- d is the pen p -/
def IsP (d : D) (p : Pn) : Prop := ∃ (cs : Option (List Ce)) (fr : Option (List Int)), d = pnC (encL 18 encCe cs) (encL 1 I fr) p.most ∧ cs.getD [] = p.cells ∧ fr.getD [] = p.free
theorem lastZ_get {l : List Int} {n : Nat} (h : l.length = n + 1) : l[n]? = some (lastZ l) ∧ l.dropLast = l.take n := by
  unfold lastZ
  rw [List.getLast?_eq_getElem?, h, Nat.add_sub_cancel, List.dropLast_eq_take, h, Nat.add_sub_cancel, List.getElem?_eq_getElem (by omega)]
  exact ⟨rfl, rfl⟩
theorem may_free {p : Pn} (h : mayPn p = true) {n : Int} (hn : n ∈ p.free) : 0 ≤ n ∧ n < p.cells.length ∧ (cellAt p n).used = false := by
  unfold mayPn at h
  simp only [Bool.and_eq_true, decide_eq_true_eq] at h
  have h2 := h.2.2
  have hm : n ∈ freeOf 0 p.cells := by rw [h2]; exact (isortZ_perm p.free).mem_iff.2 hn
  obtain ⟨k, c, e1, e2, e3⟩ := (freeOf_mem p.cells 0 n).1 hm
  have hk := (List.getElem?_eq_some_iff.1 e1).1
  refine ⟨by omega, by omega, ?_⟩
  unfold cellAt
  rw [e3, show (((0 : Nat) : Int) + (k : Nat)).toNat = k by omega, e1]
  exact e2
theorem may_gen {p : Pn} (h : mayPn p = true) {n : Nat} (hn : n < p.cells.length) : 0 ≤ (cellAt p n).gen ∧ (cellAt p n).gen ≤ 4294967295 := by
  unfold mayPn at h
  simp only [Bool.and_eq_true, decide_eq_true_eq] at h
  have hg := List.all_eq_true.1 h.2.1 _ (List.mem_of_getElem? (cellAt_get hn))
  unfold genOk at hg
  simp only [Bool.and_eq_true, decide_eq_true_eq] at hg
  exact hg
theorem may_len {p : Pn} (h : mayPn p = true) : p.cells.length ≤ 1024 ∧ (p.cells.length : Int) ≤ p.most ∧ 1 ≤ p.most ∧ p.most ≤ 1024 := by
  unfold mayPn headPn at h
  simp only [Bool.and_eq_true, decide_eq_true_eq] at h
  omega
theorem set_map_app {l : List Ce} {rest : List D} {n : Nat} (hn : n < l.length) (c : Ce) : (l.map encCe ++ rest).set n (encCe c) = (l.set n c).map encCe ++ rest := by
  rw [List.set_append_left _ _ (by simpa using hn), List.map_set]
/-- what a pen in memory of its own is, when its objects stay -/
theorem Pv.exp {H : List Ob} {p : Pn} {C F : D} (h : Pv H p C F) : exp1 H C = some (encL 18 encCe (oS p.cells C)) ∧ exp1 H F = some (encL 1 I (oS p.free F)) ∧ IsP (pnC (encL 18 encCe (oS p.cells C)) (encL 1 I (oS p.free F)) p.most) p :=
  ⟨(h.c.expO (cl_cells _)).1, (h.f.expO (cl_ints _)).1, ⟨_, _, rfl, (h.c.expO (cl_cells _)).2, (h.f.expO (cl_ints _)).2⟩⟩
theorem Pv.set {H : List Ob} {p : Pn} {C F : D} (h : Pv H p C F) {k : Nat} (hk : ∀ i, At C i ∨ At F i → i ≠ k) (o : Ob) : Pv (H.set k o) p C F :=
  ⟨h.c.set (fun e => hk k (.inl e) rfl) o, h.f.set (fun e => hk k (.inr e) rfl) o, h.d⟩
/-- one cell is written -/
theorem Pv.put {H : List Ob} {p : Pn} {C F : D} {n id ver : Nat} {rest : List D} (h : Pv H p C F) (hC : C = .own 18 id ver 0 p.cells.length) (hh : H[id]? = some ⟨ver, 18, p.cells.map encCe ++ rest, 0⟩) (hn : n < p.cells.length) (c : Ce) :
    Pv (H.set id ⟨ver, 18, (p.cells.map encCe ++ rest).set n (encCe c), 0⟩) ⟨p.cells.set n c, p.free, p.most⟩ C F := by
  have hid := (List.getElem?_eq_some_iff.1 hh).1
  refine ⟨.inr (.inr ⟨id, ver, rest, by rw [hC]; simp, ?_⟩), h.f.set (fun e => h.d id (by rw [hC]; rfl) e) _, h.d⟩
  rw [List.getElem?_set_self hid, set_map_app hn]
@[simp] theorem bq_encV (b : Option (List Vl)) : beq (encL 2 encV b) (encL 2 encV b) = true := by cases b <;> simp [encL, bq_vals]
@[simp] theorem bq_encS (b : Option (List Slt)) : beq (encL 6 encSlt b) (encL 6 encSlt b) = true := by cases b <;> simp [encL, bq_slts]
theorem play_no (cs : Option (List Ce)) (fr : Option (List Int)) (m : Int) (x : Fx) (hs : (cs.getD []).length ≤ 2 ^ 30) (hf : (fr.getD []).length ≤ 2 ^ 30) (h : mayPn ⟨cs.getD [], fr.getD [], m⟩ = false ∨ ((fr.getD []) = [] ∧ ((cs.getD []).length : Int) = m)) :
    fnc Tryz.prog cfg R 36 [pnC (encL 18 encCe cs) (encL 1 I fr) m, encX x] = some (.tup [pnC (encL 18 encCe cs) (encL 1 I fr) m, encRf (layPn ⟨cs.getD [], fr.getD [], m⟩ x).2.1, I (layPn ⟨cs.getD [], fr.getD [], m⟩ x).2.2]) := by
  have hM := pmay_spec cs fr m hs hf
  have exc : ∀ (h : List Ob) (b : Option (List Ce)), exp1 h (encL 18 encCe b) = some (encL 18 encCe b) := fun h z => exp_clean (by simp) (by simp)
  have exi : ∀ (h : List Ob) (b : Option (List Int)), exp1 h (encL 1 I b) = some (encL 1 I b) := fun h z => exp_clean (by simp) (by simp)
  unfold layPn
  cases k1 : mayPn ⟨cs.getD [], fr.getD [], m⟩
  · rw [k1] at hM
    rw [if_pos rfl, fnc_at rfl, body_eq Tryz.func36 rfl rfl]
    simp [argsσ, Vm.results, exc, exi, hM]
  · rcases h with h | ⟨h1, h2⟩
    · rw [k1] at h; cases h
    rw [k1] at hM
    have f0 : (fr.getD []).length = 0 := by rw [h1]; rfl
    have k3 : decide (((cs.getD []).length : Int) = m) = true := dt h2
    have k4 : decide (fr.getD [] = []) = true := dt h1
    rw [if_neg (by simp)]
    simp only
    rw [if_pos h1, if_pos h2, fnc_at rfl, body_eq Tryz.func36 rfl rfl]
    simp [argsσ, Vm.results, exc, exi, hM, k3, k4, h1]
theorem rlay_no (cs : Option (List Ce)) (fr : Option (List Int)) (m : Int) (x : Fx) (hs : (cs.getD []).length ≤ 2 ^ 30) (hf : (fr.getD []).length ≤ 2 ^ 30) (h : mayPn ⟨cs.getD [], fr.getD [], m⟩ = false) :
    fnc Tryz.prog cfg R 38 [pnC (encL 18 encCe cs) (encL 1 I fr) m, encX x] = some (.tup [pnC (encL 18 encCe cs) (encL 1 I fr) m, encRf ⟨0, 0⟩, I 1]) := by
  have hM := rmay_spec cs fr m hs hf
  have exc : ∀ (h : List Ob) (b : Option (List Ce)), exp1 h (encL 18 encCe b) = some (encL 18 encCe b) := fun h z => exp_clean (by simp) (by simp)
  have exi : ∀ (h : List Ob) (b : Option (List Int)), exp1 h (encL 1 I b) = some (encL 1 I b) := fun h z => exp_clean (by simp) (by simp)
  rw [h] at hM
  rw [fnc_at rfl, body_eq Tryz.func38 rfl rfl]
  simp [argsσ, Vm.results, exc, exi, hM]
/-- what Lay hands back -/
def Ql (p : Pn) (x : Fx) (o : Option D) : Prop := ∃ d, o = some (.tup [d, encRf (layPn p x).2.1, I (layPn p x).2.2]) ∧ IsP d (layPn p x).1
set_option maxHeartbeats 2000000 in
theorem play_used (cs : Option (List Ce)) (fr : Option (List Int)) (m : Int) (x : Fx) (hs : (cs.getD []).length ≤ 2 ^ 30) (hf : (fr.getD []).length ≤ 2 ^ 30) (h : mayPn ⟨cs.getD [], fr.getD [], m⟩ = true) (h0 : fr.getD [] ≠ []) :
    Ql ⟨cs.getD [], fr.getD [], m⟩ x (fnc Tryz.prog cfg R 36 [pnC (encL 18 encCe cs) (encL 1 I fr) m, encX x]) := by
  have hM := pmay_spec cs fr m hs hf
  rw [h] at hM
  have exc : ∀ (h : List Ob) (b : Option (List Ce)), exp1 h (encL 18 encCe b) = some (encL 18 encCe b) := fun h z => exp_clean (by simp) (by simp)
  have exi : ∀ (h : List Ob) (b : Option (List Int)), exp1 h (encL 1 I b) = some (encL 1 I b) := fun h z => exp_clean (by simp) (by simp)
  obtain ⟨n, hn⟩ : ∃ n, (fr.getD []).length = n + 1 := ⟨(fr.getD []).length - 1, by have := List.length_pos_iff.2 h0; omega⟩
  obtain ⟨hl1, hl2⟩ := lastZ_get hn
  have hmem := List.mem_of_getElem? hl1
  obtain ⟨r1, r2, r3⟩ := may_free (p := ⟨cs.getD [], fr.getD [], m⟩) h hmem
  simp only at r2
  obtain ⟨a, ha⟩ : ∃ a : Nat, lastZ (fr.getD []) = a := ⟨(lastZ (fr.getD [])).toNat, by omega⟩
  have hal : a < (cs.getD []).length := by omega
  have hlay : layPn ⟨cs.getD [], fr.getD [], m⟩ x = (⟨(cs.getD []).set a ⟨(cellAt ⟨cs.getD [], fr.getD [], m⟩ a).gen, true, x⟩, (fr.getD []).take n, m⟩, ⟨a, (cellAt ⟨cs.getD [], fr.getD [], m⟩ a).gen⟩, 0) := by
    unfold layPn
    rw [if_neg (by rw [h]; decide)]
    simp only
    rw [if_neg h0, ha, hl2, Int.toNat_natCast]
  have hg : (cs.getD [])[a]? = some (cellAt ⟨cs.getD [], fr.getD [], m⟩ a) := cellAt_get (p := ⟨cs.getD [], fr.getD [], m⟩) hal
  unfold Ql
  rw [hlay]
  rw [ha] at r3 hl1
  generalize cellAt ⟨cs.getD [], fr.getD [], m⟩ (a : Int) = c at *
  obtain ⟨C, F, t, ec, PV, lo⟩ := pclone_spec cs fr m [⟨0, 3, [pnC (encL 18 encCe cs) (encL 1 I fr) m], 0⟩, ⟨0, 16, [encX x], 0⟩, ⟨0, 3, [pnC .snil .snil 0], 0⟩, ⟨0, 2, [encRf ⟨0, 0⟩], 0⟩] hs hf
  simp only [List.length_cons, List.length_nil] at lo
  obtain ⟨K, hK⟩ : ∃ K : List Ob, ⟨0, 3, [pnC C F m], 0⟩ :: ⟨0, 16, [encX x], 0⟩ :: ⟨0, 3, [pnC .snil .snil 0], 0⟩ :: ⟨0, 2, [encRf ⟨0, 0⟩], 0⟩ :: t = K := ⟨_, rfl⟩
  have PK : Pv K ⟨cs.getD [], fr.getD [], m⟩ C F := by
    rw [← hK]; exact PV.set (k := 0) (fun i hi => by have := lo i hi; omega) _
  have hfe : ((fr.getD []).map I).take n = ((fr.getD []).take n).map I := by rw [List.map_take]
  obtain ⟨F', eF, iF, aF⟩ := PK.f.takeD (t := 30) un30 sz3 n (by show n ≤ ((fr.getD []).map I).length; rw [List.length_map]; omega)
  have PF : Pv K ⟨cs.getD [], (fr.getD []).take n, m⟩ C F' := ⟨PK.c, by show IsS K 1 (((fr.getD []).take n).map I) F'; rw [← hfe]; exact iF, fun i h1 h2 => PK.d i h1 (aF i h2)⟩
  have loF : ∀ i, At C i ∨ At F' i → 4 ≤ i := fun i hi => by
    rcases hi with h1 | h1
    · exact lo i (.inl h1)
    · exact lo i (.inr (aF i h1))
  have n3 := PF.f.one; have q3 := PF.f.cells
  obtain ⟨fid, fver, frest, hFe, fh, fel, fix⟩ := PK.f.ix (t := 30) un30 sz3 (i := n) (by show n < (fr.getD []).length; omega)
  obtain ⟨id, ver, rest, hCe, hh, hel, hix⟩ := PK.c.ix (t := 29) un29 sz73 (i := a) hal
  have hid4 : 4 ≤ id := lo id (.inl (by rw [hCe]; rfl))
  have hidl := (List.getElem?_eq_some_iff.1 hh).1
  have hput := fun o : Ob => (PF.set (k := 0) (fun i hi => by have := loF i hi; omega) o).put (n := a) (rest := rest) hCe (by show (K.set 0 o)[id]? = _; rw [List.getElem?_set_ne (by omega)]; exact hh) hal ⟨c.gen, true, x⟩
  simp only at fel hh hel hix fh fix hFe hCe hput
  rw [List.getElem?_append_left (by simpa using hal), List.getElem?_map, hg, Option.map_some] at hel
  have hel2 : ((cs.getD []).map encCe ++ rest)[a]? = some (encCe c) := by rw [List.getElem?_append_left (by simpa using hal), List.getElem?_map, hg]; rfl
  have fel2 : ((fr.getD []).map I ++ frest)[n]? = some (I (a : Int)) := by rw [List.getElem?_append_left (by rw [List.length_map]; omega), List.getElem?_map, hl1]; rfl
  have hal2 : a < ((cs.getD []).map encCe ++ rest).length := by simp; omega
  have sa : ∀ e, (((cs.getD []).map encCe ++ rest).set a e)[a]? = some e := fun e => List.getElem?_set_self hal2
  have g0 : K[0]? = some ⟨0, 3, [pnC C F m], 0⟩ := by rw [← hK]; rfl
  have g1 : K[1]? = some ⟨0, 16, [encX x], 0⟩ := by rw [← hK]; rfl
  have g2 : K[2]? = some ⟨0, 3, [pnC .snil .snil 0], 0⟩ := by rw [← hK]; rfl
  have g3 : K[3]? = some ⟨0, 2, [encRf ⟨0, 0⟩], 0⟩ := by rw [← hK]; rfl
  have l0 : 0 < K.length := by omega
  have l2 : 2 < K.length := by omega
  have l3 : 3 < K.length := by omega
  have u0 : ∀ o, (K.set 0 o)[0]? = some o := fun o => List.getElem?_set_self l0
  have u1 : ∀ o, (K.set 0 o)[1]? = some ⟨0, 16, [encX x], 0⟩ := fun o => by rw [List.getElem?_set_ne (by omega), g1]
  have u4 : ∀ o, (K.set 0 o)[id]? = some ⟨ver, 18, (cs.getD []).map encCe ++ rest, 0⟩ := fun o => by rw [List.getElem?_set_ne (by omega), hh]
  have v4 : ∀ o o', ((K.set 0 o).set id o')[id]? = some o' := fun o o' => List.getElem?_set_self (by simpa using hidl)
  have v0 : ∀ o o', ((K.set 0 o).set id o')[0]? = some o := fun o o' => by rw [List.getElem?_set_ne (by omega), u0]
  have v2 : ∀ o o', ((K.set 0 o).set id o')[2]? = some ⟨0, 3, [pnC .snil .snil 0], 0⟩ := fun o o' => by rw [List.getElem?_set_ne (by omega), List.getElem?_set_ne (by omega), g2]
  have v1 : ∀ o o', ((K.set 0 o).set id o')[1]? = some ⟨0, 16, [encX x], 0⟩ := fun o o' => by rw [List.getElem?_set_ne (by omega), u1]
  have w4 : ∀ o o' p, (((K.set 0 o).set id o').set 2 p)[id]? = some o' := fun o o' p => by rw [List.getElem?_set_ne (by omega), v4]
  have w3 : ∀ o o' p, (((K.set 0 o).set id o').set 2 p)[3]? = some ⟨0, 2, [encRf ⟨0, 0⟩], 0⟩ := fun o o' p => by rw [List.getElem?_set_ne (by omega), List.getElem?_set_ne (by omega), List.getElem?_set_ne (by omega), g3]
  have y2 : ∀ o o' p q, ((((K.set 0 o).set id o').set 2 p).set 3 q)[2]? = some p := fun o o' p q => by rw [List.getElem?_set_ne (by omega)]; exact List.getElem?_set_self (by simpa using l2)
  have y3 : ∀ o o' p q, ((((K.set 0 o).set id o').set 2 p).set 3 q)[3]? = some q := fun o o' p q => List.getElem?_set_self (by simpa using l3)
  have hfin := fun o p q : Ob => ((hput o).set (k := 2) (fun i hi => by have := loF i hi; omega) p).set (k := 3) (fun i hi => by have := loF i hi; omega) q
  have x1 := fun o p q => (hfin o p q).exp.1
  have x2 := fun o p q => (hfin o p q).exp.2.1
  have x3 := (hfin ⟨0, 3, [pnC C F' m], 0⟩ ⟨0, 3, [pnC C F' m], 0⟩ ⟨0, 2, [encRf ⟨a, c.gen⟩], 0⟩).exp.2.2
  simp only at x1 x2 x3
  have hd1 := dr36_9; have hd2 := dr36_12; have hd3 := dr36_13
  simp [opsAt, opsIn, Tryz.f36] at hd1 hd2 hd3
  have hw1 := Wdraw0 hd1; have hw2 := Wdraw hd2; have hw3 := Wdraw hd3
  clear hd1 hd2 hd3
  have hlen : decide (fr.getD [] = []) = false := df h0
  have hlen2 : decide (0 < (fr.getD []).length) = true := dt (by omega)
  have hwn : IntKind.i64.wrap (((fr.getD []).length : Int) - 1) = (n : Int) := by rw [hn]; rw [wr (by omega) (by omega)]; omega
  have hCl : lenS C = some (cs.getD []).length := by rw [hCe]; simp
  have hn1 := PK.c.one; have hn2 := PK.f.one; have hq1 := PK.c.cells; have hq2 := PK.f.cells
  refine ⟨_, ?_, x3⟩
  generalize oS ((cs.getD []).set a ⟨c.gen, true, x⟩) C = oc at *
  generalize oS ((fr.getD []).take n) F' = ofr at *
  rw [fnc_at rfl, body_eq Tryz.func36 rfl rfl]
  simp [argsσ, Vm.results, exc, exi, hM, ec, hK, hlen, hlen2, hwn, hn1, hn2, hq1, hq2, n3, q3, eF, hix, fix, hCl, g0, g1, g2, g3, l0, u0, u1, u4, v4, v0, v1, v2, w3, w4, y2, y3, fh, fel2, hel2, hal2, sa, x1, x2, hw1, hw2, hw3, op_nilp, logL, loud, isE, drawChk, -List.map_append, -getElem?_pos]
theorem Pv.push {K : List Ob} {p : Pn} {C F : D} (h : Pv K p C F) (c : Ce) (hl : p.cells.length ≤ 2 ^ 30) (k : Nat) (hk : ∀ i, At C i ∨ At F i → k ≤ i) (hkl : k ≤ K.length) :
    ∃ C' K', apK 192 18 K C (p.cells.map encCe) [encCe c] = some (C', K') ∧ Pv K' ⟨p.cells ++ [c], p.free, p.most⟩ C' F ∧ (∀ i, i < k → K'[i]? = K[i]?) ∧ K.length ≤ K'.length ∧ (∀ i, At C' i ∨ At F i → k ≤ i) ∧ (∀ i, i < K.length → ¬ At C i → K'[i]? = K[i]?) ∧ (∀ i, At C' i → At C i ∨ K.length ≤ i) := by
  obtain ⟨C', K', eA, iA, aA, pA, lA⟩ := h.c.pushD 192 [encCe c] (by simp; omega)
  refine ⟨C', K', eA, ⟨by rw [List.map_append]; exact iA, h.f.keep fun i hi => pA i (h.f.lt hi) (fun h2 => h.d i h2 hi), fun i h1 h2 => ?_⟩, fun i hi => pA i (by omega) (fun h2 => by have := hk i (.inl h2); omega), lA, fun i hi => ?_, pA, fun i hi => ?_⟩
  · rcases aA i h1 with h3 | h3
    · exact h.d i h3 h2
    · have := h.f.lt h2; omega
  · rcases hi with h1 | h1
    · rcases aA i h1 with h3 | h3
      · exact hk i (.inl h3)
      · omega
    · exact hk i (.inr h1)
  · rcases aA i hi with h3 | h3
    · exact .inl h3
    · exact .inr h3.1
set_option maxHeartbeats 2000000 in
theorem play_grow (cs : Option (List Ce)) (fr : Option (List Int)) (m : Int) (x : Fx) (hs : (cs.getD []).length ≤ 2 ^ 30) (hf : (fr.getD []).length ≤ 2 ^ 30) (h : mayPn ⟨cs.getD [], fr.getD [], m⟩ = true) (h0 : fr.getD [] = []) (h1 : ((cs.getD []).length : Int) ≠ m) :
    Ql ⟨cs.getD [], fr.getD [], m⟩ x (fnc Tryz.prog cfg R 36 [pnC (encL 18 encCe cs) (encL 1 I fr) m, encX x]) := by
  have hM := pmay_spec cs fr m hs hf
  rw [h] at hM
  have exc : ∀ (h : List Ob) (b : Option (List Ce)), exp1 h (encL 18 encCe b) = some (encL 18 encCe b) := fun h z => exp_clean (by simp) (by simp)
  have exi : ∀ (h : List Ob) (b : Option (List Int)), exp1 h (encL 1 I b) = some (encL 1 I b) := fun h z => exp_clean (by simp) (by simp)
  have hlay : layPn ⟨cs.getD [], fr.getD [], m⟩ x = (⟨cs.getD [] ++ [⟨0, true, x⟩], [], m⟩, ⟨(cs.getD []).length, 0⟩, 0) := by
    unfold layPn
    rw [if_neg (by rw [h]; decide)]
    simp only
    rw [if_pos h0, if_neg h1]
  unfold Ql
  rw [hlay]
  obtain ⟨C0, F, t, ec, PV, lo⟩ := pclone_spec cs fr m [⟨0, 3, [pnC (encL 18 encCe cs) (encL 1 I fr) m], 0⟩, ⟨0, 16, [encX x], 0⟩, ⟨0, 3, [pnC .snil .snil 0], 0⟩, ⟨0, 2, [encRf ⟨0, 0⟩], 0⟩] hs hf
  simp only [List.length_cons, List.length_nil] at lo
  obtain ⟨K0, hK⟩ : ∃ K : List Ob, ⟨0, 3, [pnC C0 F m], 0⟩ :: ⟨0, 16, [encX x], 0⟩ :: ⟨0, 3, [pnC .snil .snil 0], 0⟩ :: ⟨0, 2, [encRf ⟨0, 0⟩], 0⟩ :: t = K := ⟨_, rfl⟩
  have PK : Pv K0 ⟨cs.getD [], fr.getD [], m⟩ C0 F := by
    rw [← hK]; exact PV.set (k := 0) (fun i hi => by have := lo i hi; omega) _
  obtain ⟨C, K, eA, PF, pA, lA, loF, _, _⟩ := PK.push (ce0 0) hs 4 lo (by rw [← hK]; simp)
  have eA' : apK 192 18 K0 C0 ((cs.getD []).map encCe) [.agg [I 0, .bool false, I 0, I 0, .snil, .snil, .snil, I 0, I 0, I 0, I 0, I 0, I 0, I 0, I 0, I 0, I 0, I 0]] = some (C, K) := eA
  have es := PK.c.els
  have k0 : K0[0]? = some ⟨0, 3, [pnC C0 F m], 0⟩ := by rw [← hK]; rfl
  have g0 : K[0]? = some ⟨0, 3, [pnC C0 F m], 0⟩ := by rw [pA 0 (by omega), ← hK]; rfl
  have g1 : K[1]? = some ⟨0, 16, [encX x], 0⟩ := by rw [pA 1 (by omega), ← hK]; rfl
  have g2 : K[2]? = some ⟨0, 3, [pnC .snil .snil 0], 0⟩ := by rw [pA 2 (by omega), ← hK]; rfl
  have g3 : K[3]? = some ⟨0, 2, [encRf ⟨0, 0⟩], 0⟩ := by rw [pA 3 (by omega), ← hK]; rfl
  obtain ⟨a, ha⟩ : ∃ a : Nat, (cs.getD []).length = a := ⟨_, rfl⟩
  have hal : a < (cs.getD [] ++ [ce0 0]).length := by simp; omega
  have hg : (cs.getD [] ++ [ce0 0])[a]? = some (ce0 0) := by rw [← ha]; simp
  obtain ⟨id, ver, rest, hCe, hh, hel, hix⟩ := PF.c.ix (t := 29) un29 sz73 (i := a) hal
  have hid4 : 4 ≤ id := loF id (.inl (by rw [hCe]; rfl))
  have hidl := (List.getElem?_eq_some_iff.1 hh).1
  have hput := fun o : Ob => (PF.set (k := 0) (fun i hi => by have := loF i hi; omega) o).put (n := a) (rest := rest) hCe (by show (K.set 0 o)[id]? = _; rw [List.getElem?_set_ne (by omega)]; exact hh) hal ⟨0, true, x⟩
  have hset : (cs.getD [] ++ [ce0 0]).set a ⟨0, true, x⟩ = cs.getD [] ++ [⟨0, true, x⟩] := by rw [List.set_append_right _ _ (by omega), ← ha]; simp
  simp only [hset] at hh hel hix hCe hput
  have hel2 : ((cs.getD [] ++ [ce0 0]).map encCe ++ rest)[a]? = some (.agg [I 0, .bool false, I 0, I 0, .snil, .snil, .snil, I 0, I 0, I 0, I 0, I 0, I 0, I 0, I 0, I 0, I 0, I 0]) := by rw [List.getElem?_append_left (by simpa using hal), List.getElem?_map, hg]; rfl
  have hal2 : a < ((cs.getD [] ++ [ce0 0]).map encCe ++ rest).length := by simp; omega
  have sa : ∀ e, (((cs.getD [] ++ [ce0 0]).map encCe ++ rest).set a e)[a]? = some e := fun e => List.getElem?_set_self hal2
  have l0 : 0 < K.length := by omega
  have l2 : 2 < K.length := by omega
  have l3 : 3 < K.length := by omega
  have u0 : ∀ o, (K.set 0 o)[0]? = some o := fun o => List.getElem?_set_self l0
  have u1 : ∀ o, (K.set 0 o)[1]? = some ⟨0, 16, [encX x], 0⟩ := fun o => by rw [List.getElem?_set_ne (by omega), g1]
  have u4 : ∀ o, (K.set 0 o)[id]? = some ⟨ver, 18, (cs.getD [] ++ [ce0 0]).map encCe ++ rest, 0⟩ := fun o => by rw [List.getElem?_set_ne (by omega), hh]
  have v4 : ∀ o o', ((K.set 0 o).set id o')[id]? = some o' := fun o o' => List.getElem?_set_self (by simpa using hidl)
  have v0 : ∀ o o', ((K.set 0 o).set id o')[0]? = some o := fun o o' => by rw [List.getElem?_set_ne (by omega), u0]
  have v2 : ∀ o o', ((K.set 0 o).set id o')[2]? = some ⟨0, 3, [pnC .snil .snil 0], 0⟩ := fun o o' => by rw [List.getElem?_set_ne (by omega), List.getElem?_set_ne (by omega), g2]
  have v1 : ∀ o o', ((K.set 0 o).set id o')[1]? = some ⟨0, 16, [encX x], 0⟩ := fun o o' => by rw [List.getElem?_set_ne (by omega), u1]
  have w4 : ∀ o o' p, (((K.set 0 o).set id o').set 2 p)[id]? = some o' := fun o o' p => by rw [List.getElem?_set_ne (by omega), v4]
  have w3 : ∀ o o' p, (((K.set 0 o).set id o').set 2 p)[3]? = some ⟨0, 2, [encRf ⟨0, 0⟩], 0⟩ := fun o o' p => by rw [List.getElem?_set_ne (by omega), List.getElem?_set_ne (by omega), List.getElem?_set_ne (by omega), g3]
  have y2 : ∀ o o' p q, ((((K.set 0 o).set id o').set 2 p).set 3 q)[2]? = some p := fun o o' p q => by rw [List.getElem?_set_ne (by omega)]; exact List.getElem?_set_self (by simpa using l2)
  have y3 : ∀ o o' p q, ((((K.set 0 o).set id o').set 2 p).set 3 q)[3]? = some q := fun o o' p q => List.getElem?_set_self (by simpa using l3)
  have hfin := fun o p q : Ob => ((hput o).set (k := 2) (fun i hi => by have := loF i hi; omega) p).set (k := 3) (fun i hi => by have := loF i hi; omega) q
  have x1 := fun o p q => (hfin o p q).exp.1
  have x2 := fun o p q => (hfin o p q).exp.2.1
  have x3 := (hfin ⟨0, 3, [pnC C F m], 0⟩ ⟨0, 3, [pnC C F m], 0⟩ ⟨0, 2, [encRf ⟨a, 0⟩], 0⟩).exp.2.2
  simp only [h0] at x1 x2 x3
  have hd2 := dr36_12; have hd3 := dr36_13
  simp [opsAt, opsIn, Tryz.f36] at hd2 hd3
  have hw2 := Wdraw hd2; have hw3 := Wdraw hd3
  clear hd2 hd3
  have k4 : decide (fr.getD [] = []) = true := dt h0
  have k3 : decide (((cs.getD []).length : Int) = m) = false := df h1
  have k3' : decide ((a : Int) = m) = false := df (by rw [← ha]; exact h1)
  have hCl : lenS C0 = some a := by rw [PK.c.len]; simp [ha]
  have hn1 := PK.c.one; have hn2 := PK.f.one; have hq1 := PK.c.cells; have hq2 := PK.f.cells
  have n3 := PF.c.one; have q3 := PF.c.cells
  generalize hEl : (cs.getD [] ++ [ce0 0]).map encCe ++ rest = El at *
  refine ⟨pnC (encL 18 encCe (oS (cs.getD [] ++ [⟨0, true, x⟩]) C)) (encL 1 I (oS [] F)) m, ?_, x3⟩
  generalize oS (cs.getD [] ++ [⟨0, true, x⟩]) C = oc at *
  generalize oS ([] : List Int) F = ofr at *
  rw [ha, fnc_at rfl, body_eq Tryz.func36 rfl rfl]
  simp only [List.map_append, List.map_cons, List.map_nil] at es eA'
  simp [argsσ, Vm.results, exc, exi, hM, ec, hK, h0, ha, k3, k3', k4, hn1, hn2, hq1, hq2, n3, q3, es, eA', hix, hCl, k0, g0, g1, g2, g3, l0, u0, u1, u4, v4, v0, v1, v2, w3, w4, y2, y3, hel2, hal2, sa, x1, x2, hw2, hw3, op_nilp, logL, loud, isE, drawChk, -List.map_append, -getElem?_pos]
theorem play_spec (cs : Option (List Ce)) (fr : Option (List Int)) (m : Int) (x : Fx) (hs : (cs.getD []).length ≤ 2 ^ 30) (hf : (fr.getD []).length ≤ 2 ^ 30) : Ql ⟨cs.getD [], fr.getD [], m⟩ x (fnc Tryz.prog cfg R 36 [pnC (encL 18 encCe cs) (encL 1 I fr) m, encX x]) := by
  have no : (mayPn ⟨cs.getD [], fr.getD [], m⟩ = false ∨ ((fr.getD []) = [] ∧ ((cs.getD []).length : Int) = m)) → Ql ⟨cs.getD [], fr.getD [], m⟩ x (fnc Tryz.prog cfg R 36 [pnC (encL 18 encCe cs) (encL 1 I fr) m, encX x]) := fun h => by
    refine ⟨_, play_no cs fr m x hs hf h, ?_⟩
    have : (layPn ⟨cs.getD [], fr.getD [], m⟩ x).1 = ⟨cs.getD [], fr.getD [], m⟩ := by
      unfold layPn
      rcases h with h | ⟨h1, h2⟩
      · rw [if_pos h]
      · by_cases k : mayPn ⟨cs.getD [], fr.getD [], m⟩ = false
        · rw [if_pos k]
        · rw [if_neg k]
          simp only
          rw [if_pos h1, if_pos h2]
    rw [this]
    exact ⟨cs, fr, rfl, rfl, rfl⟩
  cases k1 : mayPn ⟨cs.getD [], fr.getD [], m⟩
  · exact no (.inl k1)
  by_cases h0 : fr.getD [] = []
  · by_cases h1 : ((cs.getD []).length : Int) = m
    · exact no (.inr ⟨h0, h1⟩)
    · exact play_grow cs fr m x hs hf k1 h0 h1
  · exact play_used cs fr m x hs hf k1 h0
theorem IsS.bq {H : List Ob} {z : Nat} {xs : List D} {d : D} (h : IsS H z xs d) : beq d d = true := by
  rcases h with ⟨rfl, _⟩ | ⟨rfl, _⟩ | ⟨id, ver, rest, rfl, _⟩ <;> simp [beq, beqs]
theorem Pv.app {H : List Ob} {p : Pn} {C F : D} (h : Pv H p C F) (t : List Ob) : Pv (H ++ t) p C F := ⟨h.c.app t, h.f.app t, h.d⟩
set_option maxHeartbeats 2000000 in
theorem rlay_used (cs : Option (List Ce)) (fr : Option (List Int)) (m : Int) (x : Fx) (hs : (cs.getD []).length ≤ 2 ^ 30) (hf : (fr.getD []).length ≤ 2 ^ 30) (h : mayPn ⟨cs.getD [], fr.getD [], m⟩ = true) (h0 : fr.getD [] ≠ []) :
    Ql ⟨cs.getD [], fr.getD [], m⟩ x (fnc Tryz.prog cfg R 38 [pnC (encL 18 encCe cs) (encL 1 I fr) m, encX x]) := by
  have hM := rmay_spec cs fr m hs hf
  rw [h] at hM
  have exc : ∀ (h : List Ob) (b : Option (List Ce)), exp1 h (encL 18 encCe b) = some (encL 18 encCe b) := fun h z => exp_clean (by simp) (by simp)
  have exi : ∀ (h : List Ob) (b : Option (List Int)), exp1 h (encL 1 I b) = some (encL 1 I b) := fun h z => exp_clean (by simp) (by simp)
  obtain ⟨n, hn⟩ : ∃ n, (fr.getD []).length = n + 1 := ⟨(fr.getD []).length - 1, by have := List.length_pos_iff.2 h0; omega⟩
  obtain ⟨hl1, hl2⟩ := lastZ_get hn
  have hmem := List.mem_of_getElem? hl1
  obtain ⟨r1, r2, r3⟩ := may_free (p := ⟨cs.getD [], fr.getD [], m⟩) h hmem
  simp only at r2
  obtain ⟨a, ha⟩ : ∃ a : Nat, lastZ (fr.getD []) = a := ⟨(lastZ (fr.getD [])).toNat, by omega⟩
  have hal : a < (cs.getD []).length := by omega
  have hlay : layPn ⟨cs.getD [], fr.getD [], m⟩ x = (⟨(cs.getD []).set a ⟨(cellAt ⟨cs.getD [], fr.getD [], m⟩ a).gen, true, x⟩, (fr.getD []).take n, m⟩, ⟨a, (cellAt ⟨cs.getD [], fr.getD [], m⟩ a).gen⟩, 0) := by
    unfold layPn
    rw [if_neg (by rw [h]; decide)]
    simp only
    rw [if_neg h0, ha, hl2, Int.toNat_natCast]
  have hg : (cs.getD [])[a]? = some (cellAt ⟨cs.getD [], fr.getD [], m⟩ a) := cellAt_get (p := ⟨cs.getD [], fr.getD [], m⟩) hal
  unfold Ql
  rw [hlay]
  rw [ha] at r3 hl1
  generalize cellAt ⟨cs.getD [], fr.getD [], m⟩ (a : Int) = c at *
  obtain ⟨C, F, t, ec, PV, lo⟩ := copied_spec cs fr m [⟨0, 3, [pnC (encL 18 encCe cs) (encL 1 I fr) m], 0⟩, ⟨0, 16, [encX x], 0⟩, ⟨0, 3, [pnC .snil .snil 0], 0⟩, ⟨0, 2, [encRf ⟨0, 0⟩], 0⟩] hs hf
  simp only [List.length_cons, List.length_nil] at lo
  obtain ⟨r, hr⟩ : ∃ r, t.length + 1 + 1 + 1 + 1 = r := ⟨_, rfl⟩
  obtain ⟨K, hK⟩ : ∃ K : List Ob, ⟨0, 3, [pnC (encL 18 encCe cs) (encL 1 I fr) m], 0⟩ :: ⟨0, 16, [encX x], 0⟩ :: ⟨0, 3, [pnC .snil .snil 0], 0⟩ :: ⟨0, 2, [encRf ⟨0, 0⟩], 0⟩ :: (t ++ [⟨0, 3, [pnC C F m], 0⟩]) = K := ⟨_, rfl⟩
  have gz : ∀ a b c d o : Ob, (a :: b :: c :: d :: (t ++ [o]))[r]? = some o := fun a b c d o => by rw [← hr]; simp
  have sz : ∀ a b c d o o' : Ob, (a :: b :: c :: d :: (t ++ [o])).set r o' = a :: b :: c :: d :: (t ++ [o']) := fun a b c d o o' => by rw [← hr]; simp
  have hlK : K.length = r + 1 := by rw [← hK, ← hr]; simp
  have PK : Pv K ⟨cs.getD [], fr.getD [], m⟩ C F := by
    have := PV.app [⟨0, 3, [pnC C F m], 0⟩]
    rw [← hK]; simpa using this
  have nl : ∀ i, At C i ∨ At F i → i < r := fun i hi => by
    rcases hi with h1 | h1
    · have := PV.c.lt h1; simp at this; omega
    · have := PV.f.lt h1; simp at this; omega
  have hfe : ((fr.getD []).map I).take n = ((fr.getD []).take n).map I := by rw [List.map_take]
  obtain ⟨F', eF, iF, aF⟩ := PK.f.takeD (t := 30) un30 sz3 n (by show n ≤ ((fr.getD []).map I).length; rw [List.length_map]; omega)
  have PF : Pv K ⟨cs.getD [], (fr.getD []).take n, m⟩ C F' := ⟨PK.c, by show IsS K 1 (((fr.getD []).take n).map I) F'; rw [← hfe]; exact iF, fun i h1 h2 => PK.d i h1 (aF i h2)⟩
  have loF : ∀ i, At C i ∨ At F' i → 4 ≤ i ∧ i < r := fun i hi => by
    rcases hi with h1 | h1
    · exact ⟨lo i (.inl h1), nl i (.inl h1)⟩
    · exact ⟨lo i (.inr (aF i h1)), nl i (.inr (aF i h1))⟩
  have n3 := PF.f.one; have q3 := PF.f.cells
  obtain ⟨fid, fver, frest, hFe, fh, fel, fix⟩ := PK.f.ix (t := 30) un30 sz3 (i := n) (by show n < (fr.getD []).length; omega)
  obtain ⟨id, ver, rest, hCe, hh, hel, hix⟩ := PK.c.ix (t := 29) un29 sz73 (i := a) hal
  have hid4 : 4 ≤ id := lo id (.inl (by rw [hCe]; rfl))
  have hidr : id < r := nl id (.inl (by rw [hCe]; rfl))
  have hidl := (List.getElem?_eq_some_iff.1 hh).1
  have hput := fun o : Ob => (PF.set (k := r) (fun i hi => by have := loF i hi; omega) o).put (n := a) (rest := rest) hCe (by show (K.set r o)[id]? = _; rw [List.getElem?_set_ne (by omega)]; exact hh) hal ⟨c.gen, true, x⟩
  simp only at fel hh hel hix fh fix hFe hCe hput
  rw [List.getElem?_append_left (by simpa using hal), List.getElem?_map, hg, Option.map_some] at hel
  have hel2 : ((cs.getD []).map encCe ++ rest)[a]? = some (encCe c) := by rw [List.getElem?_append_left (by simpa using hal), List.getElem?_map, hg]; rfl
  have fel2 : ((fr.getD []).map I ++ frest)[n]? = some (I (a : Int)) := by rw [List.getElem?_append_left (by rw [List.length_map]; omega), List.getElem?_map, hl1]; rfl
  have hal2 : a < ((cs.getD []).map encCe ++ rest).length := by simp; omega
  have sa : ∀ e, (((cs.getD []).map encCe ++ rest).set a e)[a]? = some e := fun e => List.getElem?_set_self hal2
  have g0 : K[r]? = some ⟨0, 3, [pnC C F m], 0⟩ := by rw [← hK]; exact gz _ _ _ _ _
  have g1 : K[1]? = some ⟨0, 16, [encX x], 0⟩ := by rw [← hK]; rfl
  have g2 : K[2]? = some ⟨0, 3, [pnC .snil .snil 0], 0⟩ := by rw [← hK]; rfl
  have g3 : K[3]? = some ⟨0, 2, [encRf ⟨0, 0⟩], 0⟩ := by rw [← hK]; rfl
  have l0 : r < K.length := by omega
  have l2 : 2 < K.length := by omega
  have l3 : 3 < K.length := by omega
  have u0 : ∀ o, (K.set r o)[r]? = some o := fun o => List.getElem?_set_self l0
  have u1 : ∀ o, (K.set r o)[1]? = some ⟨0, 16, [encX x], 0⟩ := fun o => by rw [List.getElem?_set_ne (by omega), g1]
  have u4 : ∀ o, (K.set r o)[id]? = some ⟨ver, 18, (cs.getD []).map encCe ++ rest, 0⟩ := fun o => by rw [List.getElem?_set_ne (by omega), hh]
  have v4 : ∀ o o', ((K.set r o).set id o')[id]? = some o' := fun o o' => List.getElem?_set_self (by simpa using hidl)
  have v0 : ∀ o o', ((K.set r o).set id o')[r]? = some o := fun o o' => by rw [List.getElem?_set_ne (by omega), u0]
  have v2 : ∀ o o', ((K.set r o).set id o')[2]? = some ⟨0, 3, [pnC .snil .snil 0], 0⟩ := fun o o' => by rw [List.getElem?_set_ne (by omega), List.getElem?_set_ne (by omega), g2]
  have v1 : ∀ o o', ((K.set r o).set id o')[1]? = some ⟨0, 16, [encX x], 0⟩ := fun o o' => by rw [List.getElem?_set_ne (by omega), u1]
  have w4 : ∀ o o' p, (((K.set r o).set id o').set 2 p)[id]? = some o' := fun o o' p => by rw [List.getElem?_set_ne (by omega), v4]
  have w3 : ∀ o o' p, (((K.set r o).set id o').set 2 p)[3]? = some ⟨0, 2, [encRf ⟨0, 0⟩], 0⟩ := fun o o' p => by rw [List.getElem?_set_ne (by omega), List.getElem?_set_ne (by omega), List.getElem?_set_ne (by omega), g3]
  have w0 : ∀ o o' p, (((K.set r o).set id o').set 2 p)[r]? = some o := fun o o' p => by rw [List.getElem?_set_ne (by omega), v0]
  have z0 : ∀ o o' p q, ((((K.set r o).set id o').set 2 p).set 3 q)[r]? = some o := fun o o' p q => by rw [List.getElem?_set_ne (by omega), w0]
  have z4 : ∀ o o' p q, ((((K.set r o).set id o').set 2 p).set 3 q)[id]? = some o' := fun o o' p q => by rw [List.getElem?_set_ne (by omega), w4]
  have y2 : ∀ o o' p q, ((((K.set r o).set id o').set 2 p).set 3 q)[2]? = some p := fun o o' p q => by rw [List.getElem?_set_ne (by omega)]; exact List.getElem?_set_self (by simpa using l2)
  have y3 : ∀ o o' p q, ((((K.set r o).set id o').set 2 p).set 3 q)[3]? = some q := fun o o' p q => List.getElem?_set_self (by simpa using l3)
  have hfin := fun o p q : Ob => ((hput o).set (k := 2) (fun i hi => by have := loF i hi; omega) p).set (k := 3) (fun i hi => by have := loF i hi; omega) q
  have x1 := fun o p q => (hfin o p q).exp.1
  have x2 := fun o p q => (hfin o p q).exp.2.1
  have x3 := (hfin ⟨0, 3, [pnC C F' m], 0⟩ ⟨0, 3, [pnC C F' m], 0⟩ ⟨0, 2, [encRf ⟨a, c.gen⟩], 0⟩).exp.2.2
  simp only at x1 x2 x3
  have hd1 := dr38_8; have hd2 := dr38_9
  simp [opsAt, opsIn, Tryz.f38] at hd1 hd2
  have hw1 := Wdraw0 hd1; have hw2 := Wdraw hd2; skip
  clear hd1 hd2
  have hlen : decide (fr.getD [] = []) = false := df h0
  have hlen2 : decide (0 < (fr.getD []).length) = true := dt (by omega)
  have hwn : IntKind.i64.wrap (((fr.getD []).length : Int) - 1) = (n : Int) := by rw [hn]; rw [wr (by omega) (by omega)]; omega
  have bqC : beq C C = true := PK.c.bq
  have hFl : lenS F = some (fr.getD []).length := by rw [PK.f.len]; simp
  have hCl : lenS C = some (cs.getD []).length := by rw [hCe]; simp
  have hn1 := PK.c.one; have hn2 := PK.f.one; have hq1 := PK.c.cells; have hq2 := PK.f.cells
  refine ⟨_, ?_, x3⟩
  generalize oS ((cs.getD []).set a ⟨c.gen, true, x⟩) C = oc at *
  generalize oS ((fr.getD []).take n) F' = ofr at *
  rw [fnc_at rfl, body_eq Tryz.func38 rfl rfl]
  simp [argsσ, Vm.results, exc, exi, hM, ec, hr, gz, sz, hK, hlen, hlen2, hwn, hFl, bqC, hn1, hn2, hq1, hq2, n3, q3, eF, hix, fix, hCl, g0, g1, g2, g3, l0, u0, u1, u4, v4, v0, v1, v2, w3, w4, w0, z0, z4, y2, y3, fh, fel2, hel2, hal2, sa, x1, x2, hw1, hw2, op_nilp, logL, loud, isE, drawChk, -List.map_append, -getElem?_pos]
theorem rlay_full (cs : Option (List Ce)) (fr : Option (List Int)) (m : Int) (x : Fx) (hs : (cs.getD []).length ≤ 2 ^ 30) (hf : (fr.getD []).length ≤ 2 ^ 30) (h : mayPn ⟨cs.getD [], fr.getD [], m⟩ = true) (h0 : fr.getD [] = []) (h1 : ((cs.getD []).length : Int) = m) :
    fnc Tryz.prog cfg R 38 [pnC (encL 18 encCe cs) (encL 1 I fr) m, encX x] = some (.tup [pnC (encL 18 encCe cs) (encL 1 I fr) m, encRf ⟨0, 0⟩, I 120]) := by
  have hM := rmay_spec cs fr m hs hf
  rw [h] at hM
  have exc : ∀ (h : List Ob) (b : Option (List Ce)), exp1 h (encL 18 encCe b) = some (encL 18 encCe b) := fun h z => exp_clean (by simp) (by simp)
  have exi : ∀ (h : List Ob) (b : Option (List Int)), exp1 h (encL 1 I b) = some (encL 1 I b) := fun h z => exp_clean (by simp) (by simp)
  obtain ⟨C, F, t, ec, PV, lo⟩ := copied_spec cs fr m [⟨0, 3, [pnC (encL 18 encCe cs) (encL 1 I fr) m], 0⟩, ⟨0, 16, [encX x], 0⟩, ⟨0, 3, [pnC .snil .snil 0], 0⟩, ⟨0, 2, [encRf ⟨0, 0⟩], 0⟩] hs hf
  have hFl : lenS F = some 0 := by rw [PV.f.len]; simp [h0]
  have hCl : lenS C = some (cs.getD []).length := by rw [PV.c.len]; simp
  obtain ⟨r, hr⟩ : ∃ r, t.length + 1 + 1 + 1 + 1 = r := ⟨_, rfl⟩
  have gz : ∀ a b c d o : Ob, (a :: b :: c :: d :: (t ++ [o]))[r]? = some o := fun a b c d o => by rw [← hr]; simp
  have sz : ∀ a b c d o o' : Ob, (a :: b :: c :: d :: (t ++ [o])).set r o' = a :: b :: c :: d :: (t ++ [o']) := fun a b c d o o' => by rw [← hr]; simp
  have k1 : decide (m ≤ ((cs.getD []).length : Int)) = true := dt (by omega)
  have k2 : decide ((cs.getD []).length < (cs.getD []).length) = false := df (by omega)
  have hn1 := PV.c.one; have hn2 := PV.f.one; have hq1 := PV.c.cells; have hq2 := PV.f.cells
  rw [fnc_at rfl, body_eq Tryz.func38 rfl rfl]
  simp [argsσ, Vm.results, exc, exi, hM, ec, hr, gz, sz, hFl, hCl, k1, k2, hn1, hn2, hq1, hq2, -getElem?_pos]
set_option maxHeartbeats 2000000 in
theorem rlay_grow (cs : Option (List Ce)) (fr : Option (List Int)) (m : Int) (x : Fx) (hs : (cs.getD []).length ≤ 2 ^ 30) (hf : (fr.getD []).length ≤ 2 ^ 30) (h : mayPn ⟨cs.getD [], fr.getD [], m⟩ = true) (h0 : fr.getD [] = []) (h1 : ((cs.getD []).length : Int) ≠ m) :
    Ql ⟨cs.getD [], fr.getD [], m⟩ x (fnc Tryz.prog cfg R 38 [pnC (encL 18 encCe cs) (encL 1 I fr) m, encX x]) := by
  have hM := rmay_spec cs fr m hs hf
  rw [h] at hM
  have hml := may_len h
  simp only at hml
  have exc : ∀ (h : List Ob) (b : Option (List Ce)), exp1 h (encL 18 encCe b) = some (encL 18 encCe b) := fun h z => exp_clean (by simp) (by simp)
  have exi : ∀ (h : List Ob) (b : Option (List Int)), exp1 h (encL 1 I b) = some (encL 1 I b) := fun h z => exp_clean (by simp) (by simp)
  have hlay : layPn ⟨cs.getD [], fr.getD [], m⟩ x = (⟨cs.getD [] ++ [⟨0, true, x⟩], [], m⟩, ⟨(cs.getD []).length, 0⟩, 0) := by
    unfold layPn
    rw [if_neg (by rw [h]; decide)]
    simp only
    rw [if_pos h0, if_neg h1]
  unfold Ql
  rw [hlay]
  obtain ⟨C0, F, t, ec, PV, lo⟩ := copied_spec cs fr m [⟨0, 3, [pnC (encL 18 encCe cs) (encL 1 I fr) m], 0⟩, ⟨0, 16, [encX x], 0⟩, ⟨0, 3, [pnC .snil .snil 0], 0⟩, ⟨0, 2, [encRf ⟨0, 0⟩], 0⟩] hs hf
  simp only [List.length_cons, List.length_nil] at lo
  obtain ⟨r, hr⟩ : ∃ r, t.length + 1 + 1 + 1 + 1 = r := ⟨_, rfl⟩
  obtain ⟨K0, hK⟩ : ∃ K : List Ob, ⟨0, 3, [pnC (encL 18 encCe cs) (encL 1 I fr) m], 0⟩ :: ⟨0, 16, [encX x], 0⟩ :: ⟨0, 3, [pnC .snil .snil 0], 0⟩ :: ⟨0, 2, [encRf ⟨0, 0⟩], 0⟩ :: (t ++ [⟨0, 3, [pnC C0 F m], 0⟩]) = K := ⟨_, rfl⟩
  have gz : ∀ a b c d o : Ob, (a :: b :: c :: d :: (t ++ [o]))[r]? = some o := fun a b c d o => by rw [← hr]; simp
  have sz : ∀ a b c d o o' : Ob, (a :: b :: c :: d :: (t ++ [o])).set r o' = a :: b :: c :: d :: (t ++ [o']) := fun a b c d o o' => by rw [← hr]; simp
  have hlK : K0.length = r + 1 := by rw [← hK, ← hr]; simp
  have PK : Pv K0 ⟨cs.getD [], fr.getD [], m⟩ C0 F := by
    have := PV.app [⟨0, 3, [pnC C0 F m], 0⟩]
    rw [← hK]; simpa using this
  have nl : ∀ i, At C0 i ∨ At F i → i < r := fun i hi => by
    rcases hi with h1 | h1
    · have := PV.c.lt h1; simp at this; omega
    · have := PV.f.lt h1; simp at this; omega
  obtain ⟨C, K, eA, PF, pA, lA, loF, pB, aB⟩ := PK.push ⟨0, true, x⟩ hs 4 lo (by omega)
  have nC0 : ¬ At C0 r := fun e => by have := nl r (.inl e); omega
  have neR : ∀ i, At C i ∨ At F i → i ≠ r := fun i hi => by
    rcases hi with h1 | h1
    · rcases aB i h1 with h2 | h2
      · have := nl i (.inl h2); omega
      · omega
    · have := nl i (.inr h1); omega
  have es := PK.c.els
  have k0 : K0[r]? = some ⟨0, 3, [pnC C0 F m], 0⟩ := by rw [← hK]; exact gz _ _ _ _ _
  have k1 : K0[1]? = some ⟨0, 16, [encX x], 0⟩ := by rw [← hK]; rfl
  have g0 : K[r]? = some ⟨0, 3, [pnC C0 F m], 0⟩ := by rw [pB r (by omega) nC0, k0]
  have g2 : K[2]? = some ⟨0, 3, [pnC .snil .snil 0], 0⟩ := by rw [pA 2 (by omega), ← hK]; rfl
  have g3 : K[3]? = some ⟨0, 2, [encRf ⟨0, 0⟩], 0⟩ := by rw [pA 3 (by omega), ← hK]; rfl
  obtain ⟨a, ha⟩ : ∃ a : Nat, (cs.getD []).length = a := ⟨_, rfl⟩
  have l0 : r < K.length := by omega
  have l2 : 2 < K.length := by omega
  have l3 : 3 < K.length := by omega
  have r4 : 4 ≤ r := by omega
  have u0 : ∀ o, (K.set r o)[r]? = some o := fun o => List.getElem?_set_self l0
  have u2 : ∀ o, (K.set r o)[2]? = some ⟨0, 3, [pnC .snil .snil 0], 0⟩ := fun o => by rw [List.getElem?_set_ne (by omega), g2]
  have u3 : ∀ o, (K.set r o)[3]? = some ⟨0, 2, [encRf ⟨0, 0⟩], 0⟩ := fun o => by rw [List.getElem?_set_ne (by omega), g3]
  have v0 : ∀ o p, ((K.set r o).set 2 p)[r]? = some o := fun o p => by rw [List.getElem?_set_ne (by omega), u0]
  have v2 : ∀ o p, ((K.set r o).set 2 p)[2]? = some p := fun o p => List.getElem?_set_self (by simpa using l2)
  have v3 : ∀ o p, ((K.set r o).set 2 p)[3]? = some ⟨0, 2, [encRf ⟨0, 0⟩], 0⟩ := fun o p => by rw [List.getElem?_set_ne (by omega), u3]
  have y0 : ∀ o p q, (((K.set r o).set 2 p).set 3 q)[r]? = some o := fun o p q => by rw [List.getElem?_set_ne (by omega), v0]
  have y2 : ∀ o p q, (((K.set r o).set 2 p).set 3 q)[2]? = some p := fun o p q => by rw [List.getElem?_set_ne (by omega), v2]
  have y3 : ∀ o p q, (((K.set r o).set 2 p).set 3 q)[3]? = some q := fun o p q => List.getElem?_set_self (by simpa using l3)
  have hfin := fun o p q : Ob => ((PF.set (k := r) neR o).set (k := 2) (fun i hi => by have := loF i hi; omega) p).set (k := 3) (fun i hi => by have := loF i hi; omega) q
  have x1 := fun o p q => (hfin o p q).exp.1
  have x2 := fun o p q => (hfin o p q).exp.2.1
  have x3 := (hfin ⟨0, 3, [pnC C F m], 0⟩ ⟨0, 3, [pnC C F m], 0⟩ ⟨0, 2, [encRf ⟨a, 0⟩], 0⟩).exp.2.2
  simp only [h0] at x1 x2 x3
  have hd2 := dr38_13
  simp [opsAt, opsIn, Tryz.f38] at hd2
  have hw2 := Wdraw hd2
  clear hd2
  have k4 : decide (m ≤ ((cs.getD []).length : Int)) = false := df (by omega)
  have k4' : decide (m ≤ (a : Int)) = false := df (by omega)
  have hwa : IntKind.i64.wrap (a : Int) = (a : Int) := wr (by omega) (by omega)
  have hFl : lenS F = some 0 := by rw [PK.f.len]; simp [h0]
  have hCl0 : lenS C0 = some a := by rw [PK.c.len]; simp [ha]
  have hCl : lenS C = some (a + 1) := by rw [PF.c.len]; simp [ha]
  have hwn : IntKind.i64.wrap (((a + 1 : Nat) : Int) - 1) = (a : Int) := by rw [wr (by omega) (by omega)]; omega
  have hwn' : IntKind.i64.wrap (((a : Nat) : Int) + 1 - 1) = (a : Int) := by rw [wr (by omega) (by omega)]; omega
  have bqC := PF.c.bq
  have hn1 := PK.c.one; have hn2 := PK.f.one; have hq1 := PK.c.cells; have hq2 := PK.f.cells
  have n3 := PF.c.one; have q3 := PF.c.cells
  refine ⟨pnC (encL 18 encCe (oS (cs.getD [] ++ [⟨0, true, x⟩]) C)) (encL 1 I (oS [] F)) m, ?_, x3⟩
  generalize oS (cs.getD [] ++ [⟨0, true, x⟩]) C = oc at *
  generalize oS ([] : List Int) F = ofr at *
  rw [ha, fnc_at rfl, body_eq Tryz.func38 rfl rfl]
  simp only [List.map_append, List.map_cons, List.map_nil] at es eA
  simp [argsσ, Vm.results, exc, exi, hM, ec, hr, gz, sz, hK, hFl, hCl0, hCl, k4, k4', hwn, hwn', hwa, hn1, hn2, hq1, hq2, n3, q3, es, eA, k0, k1, g0, g2, g3, l0, u0, u2, u3, v0, v2, v3, y0, y2, y3, x1, x2, bqC, hw2, op_nilp, logL, loud, isE, drawChk, -List.map_append, -getElem?_pos]
theorem rlay_spec (cs : Option (List Ce)) (fr : Option (List Int)) (m : Int) (x : Fx) (hs : (cs.getD []).length ≤ 2 ^ 30) (hf : (fr.getD []).length ≤ 2 ^ 30) : Ql ⟨cs.getD [], fr.getD [], m⟩ x (fnc Tryz.prog cfg R 38 [pnC (encL 18 encCe cs) (encL 1 I fr) m, encX x]) := by
  cases k1 : mayPn ⟨cs.getD [], fr.getD [], m⟩
  · refine ⟨pnC (encL 18 encCe cs) (encL 1 I fr) m, ?_, ?_⟩
    · rw [rlay_no cs fr m x hs hf k1]; unfold layPn; rw [if_pos k1]
    · unfold layPn; rw [if_pos k1]; exact ⟨cs, fr, rfl, rfl, rfl⟩
  by_cases h0 : fr.getD [] = []
  · by_cases h1 : ((cs.getD []).length : Int) = m
    · have e : layPn ⟨cs.getD [], fr.getD [], m⟩ x = (⟨cs.getD [], fr.getD [], m⟩, ⟨0, 0⟩, 120) := by
        unfold layPn
        rw [if_neg (by rw [k1]; decide)]
        simp only
        rw [if_pos h0, if_pos h1]
      refine ⟨pnC (encL 18 encCe cs) (encL 1 I fr) m, ?_, ?_⟩
      · rw [rlay_full cs fr m x hs hf k1 h0 h1, e]
      · rw [e]; exact ⟨cs, fr, rfl, rfl, rfl⟩
    · exact rlay_grow cs fr m x hs hf k1 h0 h1
  · exact rlay_used cs fr m x hs hf k1 h0
end Go.Proofs.YtifmjomfoilnnaaGreatW.Rg
