/- A frame is laid into a pen. No conditions. -/
import Derived.Test.YtopgmnjijioheaaVmP4
set_option linter.unusedVariables false
set_option linter.unusedSimpArgs false
namespace Go.Proofs.YtopgmnjijioheaaW.Rg
open Go.Proofs.YtopgmnjijioheaaW.Vm Go.Proofs.YtopgmnjijioheaaW.Md
open Go Go.Proofs
/-- d is the pen p -/
def IsP (d : D) (p : Pn) : Prop := ∃ (cs : Option (List Ce)) (fr : Option (List Int)), d = pnC (encL 18 encC cs) (encL 1 I fr) p.most ∧ cs.getD [] = p.cells ∧ fr.getD [] = p.free
theorem lastZ_get {l : List Int} {n : Nat} (h : l.length = n + 1) : l[n]? = some (lastZ l) ∧ l.dropLast = l.take n := by
  unfold lastZ
  rw [List.getLast?_eq_getElem?, h, Nat.add_sub_cancel, List.dropLast_eq_take, h, Nat.add_sub_cancel, List.getElem?_eq_getElem (by omega)]
  exact ⟨rfl, rfl⟩
theorem may_free {p : Pn} (h : mayPn p = true) {n : Int} (hn : n ∈ p.free) : 0 ≤ n ∧ n < p.cells.length ∧ (cellAt p n).used = false := by
  unfold mayPn at h
  simp only [Bool.and_eq_true, decide_eq_true_eq] at h
  have h2 := h.2.2
  have hm : n ∈ freeOf 0 p.cells := by rw [h2]; exact (isortZ_perm p.free).mem_iff.2 hn
  obtain ⟨k, c, e1, e2, e3⟩ := (freeOf_mem p.cells 0 n).1 hm
  have hk := (List.getElem?_eq_some_iff.1 e1).1
  refine ⟨by omega, by omega, ?_⟩
  unfold cellAt
  rw [e3, show (((0 : Nat) : Int) + (k : Nat)).toNat = k by omega, e1]
  exact e2
theorem may_gen {p : Pn} (h : mayPn p = true) {n : Nat} (hn : n < p.cells.length) : 0 ≤ (cellAt p n).gen ∧ (cellAt p n).gen ≤ 4294967295 := by
  unfold mayPn at h
  simp only [Bool.and_eq_true, decide_eq_true_eq] at h
  have hg := List.all_eq_true.1 h.2.1 _ (List.mem_of_getElem? (cellAt_get hn))
  unfold genOk at hg
  simp only [Bool.and_eq_true, decide_eq_true_eq] at hg
  exact hg
theorem may_len {p : Pn} (h : mayPn p = true) : p.cells.length ≤ 1024 ∧ (p.cells.length : Int) ≤ p.most ∧ 1 ≤ p.most ∧ p.most ≤ 1024 := by
  unfold mayPn headPn at h
  simp only [Bool.and_eq_true, decide_eq_true_eq] at h
  omega
theorem set_map_app {l : List Ce} {rest : List D} {n : Nat} (hn : n < l.length) (c : Ce) : (l.map encC ++ rest).set n (encC c) = (l.set n c).map encC ++ rest := by
  rw [List.set_append_left _ _ (by simpa using hn), List.map_set]
/-- what a pen in memory of its own is, when its objects stay -/
theorem Pv.exp {H : List Ob} {p : Pn} {C F : D} (h : Pv H p C F) : exp1 H C = some (encL 18 encC (oS p.cells C)) ∧ exp1 H F = some (encL 1 I (oS p.free F)) ∧ IsP (pnC (encL 18 encC (oS p.cells C)) (encL 1 I (oS p.free F)) p.most) p :=
  ⟨(h.c.expO (cl_cells _)).1, (h.f.expO (cl_ints _)).1, ⟨_, _, rfl, (h.c.expO (cl_cells _)).2, (h.f.expO (cl_ints _)).2⟩⟩
theorem Pv.set {H : List Ob} {p : Pn} {C F : D} (h : Pv H p C F) {k : Nat} (hk : ∀ i, At C i ∨ At F i → i ≠ k) (o : Ob) : Pv (H.set k o) p C F :=
  ⟨h.c.set (fun e => hk k (.inl e) rfl) o, h.f.set (fun e => hk k (.inr e) rfl) o, h.d⟩
/-- one cell is written -/
theorem Pv.put {H : List Ob} {p : Pn} {C F : D} {n id ver : Nat} {rest : List D} (h : Pv H p C F) (hC : C = .own 18 id ver 0 p.cells.length) (hh : H[id]? = some ⟨ver, 18, p.cells.map encC ++ rest, 0⟩) (hn : n < p.cells.length) (c : Ce) :
    Pv (H.set id ⟨ver, 18, (p.cells.map encC ++ rest).set n (encC c), 0⟩) ⟨p.cells.set n c, p.free, p.most⟩ C F := by
  have hid := (List.getElem?_eq_some_iff.1 hh).1
  refine ⟨.inr (.inr ⟨id, ver, rest, by rw [hC]; simp, ?_⟩), h.f.set (fun e => h.d id (by rw [hC]; rfl) e) _, h.d⟩
  rw [List.getElem?_set_self hid, set_map_app hn]
@[simp] theorem bq_encV (b : Option (List Vl)) : beq (encL 2 encV b) (encL 2 encV b) = true := by cases b <;> simp [encL, bq_vals]
@[simp] theorem bq_encS (b : Option (List Slt)) : beq (encL 6 encSlt b) (encL 6 encSlt b) = true := by cases b <;> simp [encL, bq_slts]
theorem play_no (cs : Option (List Ce)) (fr : Option (List Int)) (m : Int) (x : Fx) (hs : (cs.getD []).length ≤ 2 ^ 30) (hf : (fr.getD []).length ≤ 2 ^ 30) (h : mayPn ⟨cs.getD [], fr.getD [], m⟩ = false ∨ ((fr.getD []) = [] ∧ ((cs.getD []).length : Int) = m)) :
    fnc Try.prog cfg R 12 [pnC (encL 18 encC cs) (encL 1 I fr) m, encX x] = some (.tup [pnC (encL 18 encC cs) (encL 1 I fr) m, encRf (layPn ⟨cs.getD [], fr.getD [], m⟩ x).2.1, I (layPn ⟨cs.getD [], fr.getD [], m⟩ x).2.2]) := by
  have hM := pmay_spec cs fr m hs hf
  have exc : ∀ (h : List Ob) (b : Option (List Ce)), exp1 h (encL 18 encC b) = some (encL 18 encC b) := fun h z => exp_clean (by simp) (by simp)
  have exi : ∀ (h : List Ob) (b : Option (List Int)), exp1 h (encL 1 I b) = some (encL 1 I b) := fun h z => exp_clean (by simp) (by simp)
  unfold layPn
  cases k1 : mayPn ⟨cs.getD [], fr.getD [], m⟩
  · rw [k1] at hM
    rw [if_pos rfl, fnc_at rfl, body_eq Try.func12 rfl rfl]
    simp [argsσ, Vm.results, exc, exi, hM]
  · rcases h with h | ⟨h1, h2⟩
    · rw [k1] at h; cases h
    rw [k1] at hM
    have f0 : (fr.getD []).length = 0 := by rw [h1]; rfl
    have k3 : decide (((cs.getD []).length : Int) = m) = true := dt h2
    have k4 : decide (fr.getD [] = []) = true := dt h1
    rw [if_neg (by simp)]
    simp only
    rw [if_pos h1, if_pos h2, fnc_at rfl, body_eq Try.func12 rfl rfl]
    simp [argsσ, Vm.results, exc, exi, hM, k3, k4, h1]
theorem rlay_no (cs : Option (List Ce)) (fr : Option (List Int)) (m : Int) (x : Fx) (hs : (cs.getD []).length ≤ 2 ^ 30) (hf : (fr.getD []).length ≤ 2 ^ 30) (h : mayPn ⟨cs.getD [], fr.getD [], m⟩ = false) :
    fnc Try.prog cfg R 13 [pnC (encL 18 encC cs) (encL 1 I fr) m, encX x] = some (.tup [pnC (encL 18 encC cs) (encL 1 I fr) m, encRf ⟨0, 0⟩, I 1]) := by
  have hM := rmay_spec cs fr m hs hf
  have exc : ∀ (h : List Ob) (b : Option (List Ce)), exp1 h (encL 18 encC b) = some (encL 18 encC b) := fun h z => exp_clean (by simp) (by simp)
  have exi : ∀ (h : List Ob) (b : Option (List Int)), exp1 h (encL 1 I b) = some (encL 1 I b) := fun h z => exp_clean (by simp) (by simp)
  rw [h] at hM
  rw [fnc_at rfl, body_eq Try.func13 rfl rfl]
  simp [argsσ, Vm.results, exc, exi, hM]
/-- what Lay hands back -/
def Ql (p : Pn) (x : Fx) (o : Option D) : Prop := ∃ d, o = some (.tup [d, encRf (layPn p x).2.1, I (layPn p x).2.2]) ∧ IsP d (layPn p x).1
set_option maxHeartbeats 2000000 in
theorem play_used (cs : Option (List Ce)) (fr : Option (List Int)) (m : Int) (x : Fx) (hs : (cs.getD []).length ≤ 2 ^ 30) (hf : (fr.getD []).length ≤ 2 ^ 30) (h : mayPn ⟨cs.getD [], fr.getD [], m⟩ = true) (h0 : fr.getD [] ≠ []) :
    Ql ⟨cs.getD [], fr.getD [], m⟩ x (fnc Try.prog cfg R 12 [pnC (encL 18 encC cs) (encL 1 I fr) m, encX x]) := by
  have hM := pmay_spec cs fr m hs hf
  rw [h] at hM
  have exc : ∀ (h : List Ob) (b : Option (List Ce)), exp1 h (encL 18 encC b) = some (encL 18 encC b) := fun h z => exp_clean (by simp) (by simp)
  have exi : ∀ (h : List Ob) (b : Option (List Int)), exp1 h (encL 1 I b) = some (encL 1 I b) := fun h z => exp_clean (by simp) (by simp)
  obtain ⟨n, hn⟩ : ∃ n, (fr.getD []).length = n + 1 := ⟨(fr.getD []).length - 1, by have := List.length_pos_iff.2 h0; omega⟩
  obtain ⟨hl1, hl2⟩ := lastZ_get hn
  have hmem := List.mem_of_getElem? hl1
  obtain ⟨r1, r2, r3⟩ := may_free (p := ⟨cs.getD [], fr.getD [], m⟩) h hmem
  simp only at r2
  obtain ⟨a, ha⟩ : ∃ a : Nat, lastZ (fr.getD []) = a := ⟨(lastZ (fr.getD [])).toNat, by omega⟩
  have hal : a < (cs.getD []).length := by omega
  have hlay : layPn ⟨cs.getD [], fr.getD [], m⟩ x = (⟨(cs.getD []).set a ⟨(cellAt ⟨cs.getD [], fr.getD [], m⟩ a).gen, true, x⟩, (fr.getD []).take n, m⟩, ⟨a, (cellAt ⟨cs.getD [], fr.getD [], m⟩ a).gen⟩, 0) := by
    unfold layPn
    rw [if_neg (by rw [h]; decide)]
    simp only
    rw [if_neg h0, ha, hl2, Int.toNat_natCast]
  have hg : (cs.getD [])[a]? = some (cellAt ⟨cs.getD [], fr.getD [], m⟩ a) := cellAt_get (p := ⟨cs.getD [], fr.getD [], m⟩) hal
  unfold Ql
  rw [hlay]
  rw [ha] at r3 hl1
  generalize cellAt ⟨cs.getD [], fr.getD [], m⟩ (a : Int) = c at *
  obtain ⟨C, F, t, ec, PV, lo⟩ := pclone_spec cs fr m [⟨0, 3, [pnC (encL 18 encC cs) (encL 1 I fr) m], 0⟩, ⟨0, 16, [encX x], 0⟩, ⟨0, 3, [pnC .snil .snil 0], 0⟩, ⟨0, 2, [encRf ⟨0, 0⟩], 0⟩] hs hf
  simp only [List.length_cons, List.length_nil] at lo
  obtain ⟨K, hK⟩ : ∃ K : List Ob, ⟨0, 3, [pnC C F m], 0⟩ :: ⟨0, 16, [encX x], 0⟩ :: ⟨0, 3, [pnC .snil .snil 0], 0⟩ :: ⟨0, 2, [encRf ⟨0, 0⟩], 0⟩ :: t = K := ⟨_, rfl⟩
  have PK : Pv K ⟨cs.getD [], fr.getD [], m⟩ C F := by
    rw [← hK]; exact PV.set (k := 0) (fun i hi => by have := lo i hi; omega) _
  have hfe : ((fr.getD []).map I).take n = ((fr.getD []).take n).map I := by rw [List.map_take]
  obtain ⟨F', eF, iF, aF⟩ := PK.f.takeD (t := 23) un23 sz3 n (by show n ≤ ((fr.getD []).map I).length; rw [List.length_map]; omega)
  have PF : Pv K ⟨cs.getD [], (fr.getD []).take n, m⟩ C F' := ⟨PK.c, by show IsS K 1 (((fr.getD []).take n).map I) F'; rw [← hfe]; exact iF, fun i h1 h2 => PK.d i h1 (aF i h2)⟩
  have loF : ∀ i, At C i ∨ At F' i → 4 ≤ i := fun i hi => by
    rcases hi with h1 | h1
    · exact lo i (.inl h1)
    · exact lo i (.inr (aF i h1))
  have n3 := PF.f.one; have q3 := PF.f.cells
  obtain ⟨fid, fver, frest, hFe, fh, fel, fix⟩ := PK.f.ix (t := 23) un23 sz3 (i := n) (by show n < (fr.getD []).length; omega)
  obtain ⟨id, ver, rest, hCe, hh, hel, hix⟩ := PK.c.ix (t := 22) un22 sz62 (i := a) hal
  have hid4 : 4 ≤ id := lo id (.inl (by rw [hCe]; rfl))
  have hidl := (List.getElem?_eq_some_iff.1 hh).1
  have hput := fun o : Ob => (PF.set (k := 0) (fun i hi => by have := loF i hi; omega) o).put (n := a) (rest := rest) hCe (by show (K.set 0 o)[id]? = _; rw [List.getElem?_set_ne (by omega)]; exact hh) hal ⟨c.gen, true, x⟩
  simp only at fel hh hel hix fh fix hFe hCe hput
  rw [List.getElem?_append_left (by simpa using hal), List.getElem?_map, hg, Option.map_some] at hel
  have hel2 : ((cs.getD []).map encC ++ rest)[a]? = some (encC c) := by rw [List.getElem?_append_left (by simpa using hal), List.getElem?_map, hg]; rfl
  have fel2 : ((fr.getD []).map I ++ frest)[n]? = some (I (a : Int)) := by rw [List.getElem?_append_left (by rw [List.length_map]; omega), List.getElem?_map, hl1]; rfl
  have hal2 : a < ((cs.getD []).map encC ++ rest).length := by simp; omega
  have sa : ∀ e, (((cs.getD []).map encC ++ rest).set a e)[a]? = some e := fun e => List.getElem?_set_self hal2
  have g0 : K[0]? = some ⟨0, 3, [pnC C F m], 0⟩ := by rw [← hK]; rfl
  have g1 : K[1]? = some ⟨0, 16, [encX x], 0⟩ := by rw [← hK]; rfl
  have g2 : K[2]? = some ⟨0, 3, [pnC .snil .snil 0], 0⟩ := by rw [← hK]; rfl
  have g3 : K[3]? = some ⟨0, 2, [encRf ⟨0, 0⟩], 0⟩ := by rw [← hK]; rfl
  have l0 : 0 < K.length := by omega
  have l2 : 2 < K.length := by omega
  have l3 : 3 < K.length := by omega
  have u0 : ∀ o, (K.set 0 o)[0]? = some o := fun o => List.getElem?_set_self l0
  have u1 : ∀ o, (K.set 0 o)[1]? = some ⟨0, 16, [encX x], 0⟩ := fun o => by rw [List.getElem?_set_ne (by omega), g1]
  have u4 : ∀ o, (K.set 0 o)[id]? = some ⟨ver, 18, (cs.getD []).map encC ++ rest, 0⟩ := fun o => by rw [List.getElem?_set_ne (by omega), hh]
  have v4 : ∀ o o', ((K.set 0 o).set id o')[id]? = some o' := fun o o' => List.getElem?_set_self (by simpa using hidl)
  have v0 : ∀ o o', ((K.set 0 o).set id o')[0]? = some o := fun o o' => by rw [List.getElem?_set_ne (by omega), u0]
  have v2 : ∀ o o', ((K.set 0 o).set id o')[2]? = some ⟨0, 3, [pnC .snil .snil 0], 0⟩ := fun o o' => by rw [List.getElem?_set_ne (by omega), List.getElem?_set_ne (by omega), g2]
  have v1 : ∀ o o', ((K.set 0 o).set id o')[1]? = some ⟨0, 16, [encX x], 0⟩ := fun o o' => by rw [List.getElem?_set_ne (by omega), u1]
  have w4 : ∀ o o' p, (((K.set 0 o).set id o').set 2 p)[id]? = some o' := fun o o' p => by rw [List.getElem?_set_ne (by omega), v4]
  have w3 : ∀ o o' p, (((K.set 0 o).set id o').set 2 p)[3]? = some ⟨0, 2, [encRf ⟨0, 0⟩], 0⟩ := fun o o' p => by rw [List.getElem?_set_ne (by omega), List.getElem?_set_ne (by omega), List.getElem?_set_ne (by omega), g3]
  have y2 : ∀ o o' p q, ((((K.set 0 o).set id o').set 2 p).set 3 q)[2]? = some p := fun o o' p q => by rw [List.getElem?_set_ne (by omega)]; exact List.getElem?_set_self (by simpa using l2)
  have y3 : ∀ o o' p q, ((((K.set 0 o).set id o').set 2 p).set 3 q)[3]? = some q := fun o o' p q => List.getElem?_set_self (by simpa using l3)
  have hfin := fun o p q : Ob => ((hput o).set (k := 2) (fun i hi => by have := loF i hi; omega) p).set (k := 3) (fun i hi => by have := loF i hi; omega) q
  have x1 := fun o p q => (hfin o p q).exp.1
  have x2 := fun o p q => (hfin o p q).exp.2.1
  have x3 := (hfin ⟨0, 3, [pnC C F' m], 0⟩ ⟨0, 3, [pnC C F' m], 0⟩ ⟨0, 2, [encRf ⟨a, c.gen⟩], 0⟩).exp.2.2
  simp only at x1 x2 x3
  have hd1 := dr12_9; have hd2 := dr12_12; have hd3 := dr12_13
  simp [opsAt, opsIn, Try.f12] at hd1 hd2 hd3
  have hw1 := Wdraw0 hd1; have hw2 := Wdraw hd2; have hw3 := Wdraw hd3
  clear hd1 hd2 hd3
  have hlen : decide (fr.getD [] = []) = false := df h0
  have hlen2 : decide (0 < (fr.getD []).length) = true := dt (by omega)
  have hwn : IntKind.i64.wrap (((fr.getD []).length : Int) - 1) = (n : Int) := by rw [hn]; rw [wr (by omega) (by omega)]; omega
  have hCl : lenS C = some (cs.getD []).length := by rw [hCe]; simp
  have hn1 := PK.c.one; have hn2 := PK.f.one; have hq1 := PK.c.cells; have hq2 := PK.f.cells
  refine ⟨_, ?_, x3⟩
  generalize oS ((cs.getD []).set a ⟨c.gen, true, x⟩) C = oc at *
  generalize oS ((fr.getD []).take n) F' = ofr at *
  rw [fnc_at rfl, body_eq Try.func12 rfl rfl]
  simp [argsσ, Vm.results, exc, exi, hM, ec, hK, hlen, hlen2, hwn, hn1, hn2, hq1, hq2, n3, q3, eF, hix, fix, hCl, g0, g1, g2, g3, l0, u0, u1, u4, v4, v0, v1, v2, w3, w4, y2, y3, fh, fel2, hel2, hal2, sa, x1, x2, hw1, hw2, hw3, op_nilp, logL, loud, isE, drawChk, -List.map_append, -getElem?_pos]
end Go.Proofs.YtopgmnjijioheaaW.Rg
