/- A child's end is given; how a frame ends; a new one. No conditions. -/
import Derived.Test.YtlpadffinfijgaaVmGD
import Derived.Test.YtlpadffinfijgaaVmAA
set_option linter.unusedVariables false
set_option linter.unusedSimpArgs false
namespace Go.Proofs.YtlpadffinfijgaaW.Rg
open Go.Proofs.YtlpadffinfijgaaW.Vm Go.Proofs.YtlpadffinfijgaaW.Md
open Go Go.Proofs
@[simp] theorem ixL_val (b : Option (List Vl)) (i : D) : indexAddrD Try.prog 24 (encL 2 encV b) i = (idxD (b.getD []).length i).map fun i => .fptr 2 ((b.getD []).map encV) i 0 := ixL un24 sz30 b i
@[simp] theorem ixL_slt (b : Option (List Slt)) (i : D) : indexAddrD Try.prog 58 (encL 6 encSlt b) i = (idxD (b.getD []).length i).map fun i => .fptr 6 ((b.getD []).map encSlt) i 0 := ixL un58 sz111 b i
@[simp] theorem bq_encV (b : Option (List Vl)) : beq (encL 2 encV b) (encL 2 encV b) = true := by cases b <;> simp [encL, bq_vals]
@[simp] theorem bq_encS (b : Option (List Slt)) : beq (encL 6 encSlt b) (encL 6 encSlt b) = true := by cases b <;> simp [encL, bq_slts]
theorem idx_loop_val (c : Option (List Vl)) (p : Vl → Bool) (g : Nat) (ca : List D) (hca : cleans ca = true) (hlz : lzs ca = true) (hsh : cfg.shared g = false) (hg : ∀ x, fnc Try.prog cfg R g (encV x :: ca) = some (.bool (p x))) (hl : (c.getD []).length < 2 ^ 63) {X : Type} (K : Ex × St → Option X) (x : X) : ∀ (rest : List Vl) (i : Nat) (σ : Nat → D), (c.getD []).drop i = rest →
    σ 0 = encL 2 encV c → σ 1 = .clo (.func g) [] ca → σ 7 = I (c.getD []).length → σ 8 = I i →
    (∀ σ' (j : Nat), idxF p rest i = some j → σ' 4 = I j → K (.ret, ⟨σ', [], 19⟩) = some x) → (∀ σ', idxF p rest i = none → K (.exit 0, ⟨σ', [], 19⟩) = some x) →
    (W Try.prog cfg (.loop (loopAt Try.f54 2)) ⟨σ, [], 19⟩).bind K = some x
  | [], i, σ, hd, s0, s1, s7, s8, hr, he => by
    have hi : ¬ (i < (c.getD []).length) := by have := congrArg List.length hd; simp at this; omega
    rw [Wloop]
    conv => lhs; arg 1; arg 1; simp [loopAt, loopIn, headId, Try.f54, s7, s8, hi]
    exact he _ rfl
  | y :: rest, i, σ, hd, s0, s1, s7, s8, hr, he => by
    obtain ⟨hg1, hd1, hi⟩ := drop_get hd
    have hlt : decide (i < (c.getD []).length) = true := dt hi
    have hx := idxD_nat .i64 hi
    have hw : IntKind.i64.wrap ((i : Int) + 1) = ((i + 1 : Nat) : Int) := wr (by omega) (by omega)
    have hgy := hg y
    have hcc : clean (.clo (.func g) [] ca) = true := by simp [hca]
    cases hp : p y with
    | true =>
      rw [hp] at hgy
      rw [Wloop]
      conv => lhs; arg 1; arg 1; simp [loopAt, loopIn, headId, Try.f54, s0, s1, s7, s8, hlt, hx, hg1, hgy, hw, hsh, hca, hlz, exps_clean hca hlz, markss_clean hca]
      exact hr _ i (by simp [idxF, hp]) (by simp)
    | false =>
      rw [hp] at hgy
      rw [Wloop]
      conv => lhs; arg 1; arg 1; simp [loopAt, loopIn, headId, Try.f54, s0, s1, s7, s8, hlt, hx, hg1, hgy, hw, hsh, hca, hlz, exps_clean hca hlz, markss_clean hca]
      rw [Option.bind_some, loopK_normal]
      refine idx_loop_val c p g ca hca hlz hsh hg hl K x rest (i + 1) _ hd1 (by simp [s0]) (by simp [s1]) (by simp [s7]) (by simp) ?_ ?_
      · intro σ' j h1 h2; exact hr σ' j (by simp [idxF, hp, h1]) h2
      · intro σ' h1; exact he σ' (by simp [idxF, hp, h1])
theorem index_val (c : Option (List Vl)) (p : Vl → Bool) (g : Nat) (ca : List D) (hca : cleans ca = true) (hlz : lzs ca = true) (hsh : cfg.shared g = false) (hg : ∀ x, fnc Try.prog cfg R g (encV x :: ca) = some (.bool (p x))) (hl : (c.getD []).length < 2 ^ 63) :
    fnc Try.prog cfg R 54 [encL 2 encV c, .clo (.func g) [] ca] = some (I (idxI p (c.getD []))) := by
  rw [fnc_at rfl, body_eq Try.func54 rfl rfl]
  simp [argsσ, Option.bind_assoc]
  refine idx_loop_val c p g ca hca hlz hsh hg hl _ _ (c.getD []) 0 _ (by simp) (by simp [argsσ]) (by simp [argsσ]) (by simp) (by simp) ?_ ?_
  · intro σ' j h1 h2; simp [h2, Vm.results, idxI, h1]
  · intro σ' h1; simp [Vm.results, idxI, h1]
theorem contains_val (c : Option (List Vl)) (p : Vl → Bool) (g : Nat) (ca : List D) (hca : cleans ca = true) (hlz : lzs ca = true) (hsh : cfg.shared g = false) (hg : ∀ x, fnc Try.prog cfg R g (encV x :: ca) = some (.bool (p x))) (hl : (c.getD []).length < 2 ^ 63) :
    fnc Try.prog cfg R 33 [encL 2 encV c, .clo (.func g) [] ca] = some (.bool ((c.getD []).any p)) := by
  have h := index_val c p g ca hca hlz hsh hg hl
  have he := idxI_any p (c.getD [])
  rw [fnc_at rfl, body_eq Try.func33 rfl rfl]
  have hcc : clean (.clo (.func g) [] ca) = true := by simp [hca]
  simp [argsσ, Vm.results, h, hca, hlz, exps_clean hca hlz, markss_clean hca, he]
theorem idx_loop_slt (c : Option (List Slt)) (p : Slt → Bool) (g : Nat) (ca : List D) (hca : cleans ca = true) (hlz : lzs ca = true) (hsh : cfg.shared g = false) (hg : ∀ x, fnc Try.prog cfg R g (encSlt x :: ca) = some (.bool (p x))) (hl : (c.getD []).length < 2 ^ 63) {X : Type} (K : Ex × St → Option X) (x : X) : ∀ (rest : List Slt) (i : Nat) (σ : Nat → D), (c.getD []).drop i = rest →
    σ 0 = encL 6 encSlt c → σ 1 = .clo (.func g) [] ca → σ 7 = I (c.getD []).length → σ 8 = I i →
    (∀ σ' (j : Nat), idxF p rest i = some j → σ' 4 = I j → K (.ret, ⟨σ', [], 19⟩) = some x) → (∀ σ', idxF p rest i = none → K (.exit 0, ⟨σ', [], 19⟩) = some x) →
    (W Try.prog cfg (.loop (loopAt Try.f95 2)) ⟨σ, [], 19⟩).bind K = some x
  | [], i, σ, hd, s0, s1, s7, s8, hr, he => by
    have hi : ¬ (i < (c.getD []).length) := by have := congrArg List.length hd; simp at this; omega
    rw [Wloop]
    conv => lhs; arg 1; arg 1; simp [loopAt, loopIn, headId, Try.f95, s7, s8, hi]
    exact he _ rfl
  | y :: rest, i, σ, hd, s0, s1, s7, s8, hr, he => by
    obtain ⟨hg1, hd1, hi⟩ := drop_get hd
    have hlt : decide (i < (c.getD []).length) = true := dt hi
    have hx := idxD_nat .i64 hi
    have hw : IntKind.i64.wrap ((i : Int) + 1) = ((i + 1 : Nat) : Int) := wr (by omega) (by omega)
    have hgy := hg y
    have hcc : clean (.clo (.func g) [] ca) = true := by simp [hca]
    cases hp : p y with
    | true =>
      rw [hp] at hgy
      rw [Wloop]
      conv => lhs; arg 1; arg 1; simp [loopAt, loopIn, headId, Try.f95, s0, s1, s7, s8, hlt, hx, hg1, hgy, hw, hsh, hca, hlz, exps_clean hca hlz, markss_clean hca]
      exact hr _ i (by simp [idxF, hp]) (by simp)
    | false =>
      rw [hp] at hgy
      rw [Wloop]
      conv => lhs; arg 1; arg 1; simp [loopAt, loopIn, headId, Try.f95, s0, s1, s7, s8, hlt, hx, hg1, hgy, hw, hsh, hca, hlz, exps_clean hca hlz, markss_clean hca]
      rw [Option.bind_some, loopK_normal]
      refine idx_loop_slt c p g ca hca hlz hsh hg hl K x rest (i + 1) _ hd1 (by simp [s0]) (by simp [s1]) (by simp [s7]) (by simp) ?_ ?_
      · intro σ' j h1 h2; exact hr σ' j (by simp [idxF, hp, h1]) h2
      · intro σ' h1; exact he σ' (by simp [idxF, hp, h1])
theorem index_slt (c : Option (List Slt)) (p : Slt → Bool) (g : Nat) (ca : List D) (hca : cleans ca = true) (hlz : lzs ca = true) (hsh : cfg.shared g = false) (hg : ∀ x, fnc Try.prog cfg R g (encSlt x :: ca) = some (.bool (p x))) (hl : (c.getD []).length < 2 ^ 63) :
    fnc Try.prog cfg R 95 [encL 6 encSlt c, .clo (.func g) [] ca] = some (I (idxI p (c.getD []))) := by
  rw [fnc_at rfl, body_eq Try.func95 rfl rfl]
  simp [argsσ, Option.bind_assoc]
  refine idx_loop_slt c p g ca hca hlz hsh hg hl _ _ (c.getD []) 0 _ (by simp) (by simp [argsσ]) (by simp [argsσ]) (by simp) (by simp) ?_ ?_
  · intro σ' j h1 h2; simp [h2, Vm.results, idxI, h1]
  · intro σ' h1; simp [Vm.results, idxI, h1]
theorem contains_slt (c : Option (List Slt)) (p : Slt → Bool) (g : Nat) (ca : List D) (hca : cleans ca = true) (hlz : lzs ca = true) (hsh : cfg.shared g = false) (hg : ∀ x, fnc Try.prog cfg R g (encSlt x :: ca) = some (.bool (p x))) (hl : (c.getD []).length < 2 ^ 63) :
    fnc Try.prog cfg R 67 [encL 6 encSlt c, .clo (.func g) [] ca] = some (.bool ((c.getD []).any p)) := by
  have h := index_slt c p g ca hca hlz hsh hg hl
  have he := idxI_any p (c.getD [])
  rw [fnc_at rfl, body_eq Try.func67 rfl rfl]
  have hcc : clean (.clo (.func g) [] ca) = true := by simp [hca]
  simp [argsσ, Vm.results, h, hca, hlz, exps_clean hca hlz, markss_clean hca, he]
theorem fin1_spec (s : Slt) : fnc Try.prog cfg R 66 [encSlt s] = some (.bool (s.state == 1)) := by
  rw [fnc_at rfl, body_eq Try.func66 rfl rfl]
  have e : (s.state == 1) = decide (s.state = 1) := rfl
  rw [e]
  simp [argsσ, Vm.results]
theorem new1_spec (v : Vl) : fnc Try.prog cfg R 34 [encV v] = some (.bool (!v.may)) := by
  rw [fnc_at rfl, body_eq Try.func34 rfl rfl]
  have h := gmay_spec v
  simp [argsσ, Vm.results, h]
theorem get3 {α : Type} (a b c : α) (l : List α) (k : Nat) : (a :: b :: c :: l)[k + 3]? = l[k]? := by simp
theorem give_spec (f : Fr) (a b : Option (List Vl)) (z : Option (List Slt)) (ha : a.getD [] = f.stack) (hb : b.getD [] = f.locals) (hz : z.getD [] = f.slots) (i : Int) (o : Ou) (h1 : f.stack.length ≤ 2 ^ 40) (h2 : f.locals.length ≤ 2 ^ 40) (h3 : f.slots.length ≤ 2 ^ 40) :
    ∃ d, fnc Try.prog cfg R 39 [frC f (encL 2 encV a) (encL 2 encV b) (encL 6 encSlt z), I i, encO o] = some (.tup [d, .bool (giveF f i o).2]) ∧ IsF d (giveF f i o).1 := by
  have exz : ∀ (h : List Ob) (z : Option (List Slt)), exp1 h (encL 6 encSlt z) = some (encL 6 encSlt z) := fun h z => exp_clean (by simp) (by simp)
  have hzl : (z.getD []).length = f.slots.length := by rw [hz]
  by_cases hc : i < 0 ∨ (f.slots.length : Int) ≤ i ∨ (slotAt f i).state ≠ 1
  · have e : giveF f i o = (f, false) := by unfold giveF; rw [if_pos hc]
    rw [e]
    refine ⟨frC f (encL 2 encV a) (encL 2 encV b) (encL 6 encSlt z), ?_, ⟨a, b, z, rfl, ha, hb, hz⟩⟩
    rw [fnc_at rfl, body_eq Try.func39 rfl rfl]
    cases k1 : decide (i < 0)
    case true => simp [argsσ, Vm.results, k1, exz]
    cases k2 : decide ((f.slots.length : Int) ≤ i)
    case true => simp [argsσ, Vm.results, k1, hzl, k2, exz]
    have m1 := of_decide_eq_false k1; have m2 := of_decide_eq_false k2
    obtain ⟨n, rfl⟩ : ∃ n : Nat, i = n := ⟨i.toNat, by omega⟩
    have hn : n < f.slots.length := by omega
    have hsl := slotAt_get hn (n : Int) rfl
    have hix := idxD_nat .i64 hn
    have hg : f.slots[n]? = some f.slots[n] := List.getElem?_eq_getElem hn
    rw [hsl] at hc
    generalize f.slots[n] = s at *
    have k3 : decide (s.state = 1) = false := df (by omega)
    have k2' : decide (f.slots.length ≤ n) = false := df (by omega)
    simp [argsσ, Vm.results, k1, hzl, hz, k2', hix, hg, k3, exz]
  · have k1 : decide (i < 0) = false := df (by omega)
    have k2 : decide ((f.slots.length : Int) ≤ i) = false := df (by omega)
    obtain ⟨n, rfl⟩ : ∃ n : Nat, i = n := ⟨i.toNat, by omega⟩
    have k2' : decide (f.slots.length ≤ n) = false := df (by omega)
    have hn : n < f.slots.length := by omega
    have hsl := slotAt_get hn (n : Int) rfl
    have hix := idxD_nat .i64 hn
    have hg : f.slots[n]? = some f.slots[n] := List.getElem?_eq_getElem hn
    have k3 : decide (f.slots[n].state = 1) = true := dt (by rw [hsl] at hc; omega)
    have e : giveF f n o = (if f.state = 1 ∧ f.wait = n then { setSlot f n ⟨2, noK, o⟩ with state := 0, wait := 0 } else setSlot f n ⟨2, noK, o⟩, true) := by unfold giveF; rw [if_neg hc]
    rw [e]
    have hnr := noRef_spec
    simp only [encRf, noK] at hnr
    obtain ⟨w, hw⟩ : ∃ w : Ob, w = ⟨0, 16, [frC f (encL 2 encV a) (encL 2 encV b) (encL 6 encSlt z)], 0⟩ := ⟨_, rfl⟩
    obtain ⟨S, L, Z, t, ec, iS, iL, iZ, dSL, dSZ, dLZ, lo⟩ := cloneF_spec f (H := [w, ⟨0, 3, [encO o], 0⟩, ⟨0, 16, [zF], 0⟩]) (by rw [← ha]; exact src_enc a) (by rw [← hb]; exact src_enc b) (by rw [← hz]; exact src_enc z) h1 h2 h3
    simp only [List.length_cons, List.length_nil] at lo
    obtain ⟨id, ver, rest, rfl, hh, hel, _⟩ := iZ.ix (t := 58) un58 sz111 hn
    obtain ⟨k, rfl⟩ : ∃ k, id = k + 3 := ⟨id - 3, by have := lo id (.inr (.inr rfl)); omega⟩
    simp only [List.cons_append, List.nil_append, get3] at hh
    have hkl := (List.getElem?_eq_some_iff.1 hh).1
    have e1 := iS.one; have e2 := iL.one
    have c1 := iS.cells; have c2 := iL.cells
    subst hw
    have hd := dr39_4
    simp [opsAt, opsIn, Try.f39] at hd
    have hdw := Wdraw hd
    clear hd
    have hset : (f.slots.map encSlt ++ rest).set n (.agg [I 2, I (-1), I 0, I o.trap, I o.v.re, I o.v.im]) = (setSlot f n ⟨2, noK, o⟩).slots.map encSlt ++ rest := by
      unfold setSlot
      rw [List.set_append_left _ _ (by simpa using hn), show ((n : Int)).toNat = n by omega, List.map_set]; rfl
    have kp : ∀ {zz xs d} (x y v : Ob), IsS ([⟨0, 16, [frC f (encL 2 encV a) (encL 2 encV b) (encL 6 encSlt z)], 0⟩, ⟨0, 3, [encO o], 0⟩, ⟨0, 16, [zF], 0⟩] ++ t) zz xs d → (∀ i, At d i → ¬ At (.own 6 (k + 3) ver 0 f.slots.length) i) → (∀ i, At d i → 3 ≤ i) → ∀ u : Ob, IsS (x :: y :: v :: t.set k u) zz xs d := by
      intro zz xs d x y v hd hne hge u
      refine hd.keep fun i hi => ?_
      have h3 := hge i hi
      have h4 := hne i hi
      rw [at_own] at h4
      obtain ⟨j, rfl⟩ : ∃ j, i = j + 3 := ⟨i - 3, by omega⟩
      rw [get3, List.cons_append, List.cons_append, List.cons_append, List.nil_append, get3, List.getElem?_set_ne (by omega)]
    have fS := fun x y v u => kp x y v iS dSZ (fun i hi => lo i (.inl hi)) u
    have fL := fun x y v u => kp x y v iL dLZ (fun i hi => lo i (.inr (.inl hi))) u
    have fZ : ∀ x y v : Ob, IsS (x :: y :: v :: t.set k ⟨ver, 6, (setSlot f n ⟨2, noK, o⟩).slots.map encSlt ++ rest, 0⟩) 6 ((setSlot f n ⟨2, noK, o⟩).slots.map encSlt) (.own 6 (k + 3) ver 0 f.slots.length) := fun x y v =>
      .inr (.inr ⟨k + 3, ver, rest, by unfold setSlot; simp, by rw [get3]; exact List.getElem?_set_self hkl⟩)
    rw [← hset] at fZ
    have hge2 : (f.slots.map encSlt ++ rest)[n]? = some (encSlt f.slots[n]) := hel
    by_cases kk : f.state = 1 ∧ f.wait = n
    · rw [if_pos kk]
      have j1 : decide (f.state = 1) = true := dt kk.1
      have j2 : decide (f.wait = (n : Int)) = true := dt kk.2
      obtain ⟨a', ea, ga⟩ := (fS ⟨0, 16, [frC { f with state := 0, wait := 0 } S L (.own 6 (k + 3) ver 0 f.slots.length)], 0⟩ ⟨0, 3, [encO o], 0⟩ ⟨0, 16, [frC { f with state := 0, wait := 0 } S L (.own 6 (k + 3) ver 0 f.slots.length)], 0⟩ ⟨ver, 6, (f.slots.map encSlt ++ rest).set n (.agg [I 2, I (-1), I 0, I o.trap, I o.v.re, I o.v.im]), 0⟩).exp' (cl_vals _)
      obtain ⟨b', eb, gb⟩ := (fL ⟨0, 16, [frC { f with state := 0, wait := 0 } S L (.own 6 (k + 3) ver 0 f.slots.length)], 0⟩ ⟨0, 3, [encO o], 0⟩ ⟨0, 16, [frC { f with state := 0, wait := 0 } S L (.own 6 (k + 3) ver 0 f.slots.length)], 0⟩ ⟨ver, 6, (f.slots.map encSlt ++ rest).set n (.agg [I 2, I (-1), I 0, I o.trap, I o.v.re, I o.v.im]), 0⟩).exp' (cl_vals _)
      obtain ⟨z', ez, gz⟩ := (fZ ⟨0, 16, [frC { f with state := 0, wait := 0 } S L (.own 6 (k + 3) ver 0 f.slots.length)], 0⟩ ⟨0, 3, [encO o], 0⟩ ⟨0, 16, [frC { f with state := 0, wait := 0 } S L (.own 6 (k + 3) ver 0 f.slots.length)], 0⟩).exp' (cl_slts _)
      refine ⟨frC { setSlot f n ⟨2, noK, o⟩ with state := 0, wait := 0 } (encL 2 encV a') (encL 2 encV b') (encL 6 encSlt z'), ?_, ⟨a', b', z', rfl, ga, gb, gz⟩⟩
      rw [fnc_at rfl, body_eq Try.func39 rfl rfl]
      simp [argsσ, Vm.results, k1, hzl, hz, k2', hix, hg, k3, ec, e1, e2, c1, c2, hh, hkl, hge2, hnr, hdw, j1, j2, logL, loud, isE, drawChk, ea, eb, ez, setSlot, -List.map_set, -getElem?_pos]
    · rw [if_neg kk]
      obtain ⟨a', ea, ga⟩ := (fS ⟨0, 16, [frC f S L (.own 6 (k + 3) ver 0 f.slots.length)], 0⟩ ⟨0, 3, [encO o], 0⟩ ⟨0, 16, [frC f S L (.own 6 (k + 3) ver 0 f.slots.length)], 0⟩ ⟨ver, 6, (f.slots.map encSlt ++ rest).set n (.agg [I 2, I (-1), I 0, I o.trap, I o.v.re, I o.v.im]), 0⟩).exp' (cl_vals _)
      obtain ⟨b', eb, gb⟩ := (fL ⟨0, 16, [frC f S L (.own 6 (k + 3) ver 0 f.slots.length)], 0⟩ ⟨0, 3, [encO o], 0⟩ ⟨0, 16, [frC f S L (.own 6 (k + 3) ver 0 f.slots.length)], 0⟩ ⟨ver, 6, (f.slots.map encSlt ++ rest).set n (.agg [I 2, I (-1), I 0, I o.trap, I o.v.re, I o.v.im]), 0⟩).exp' (cl_vals _)
      obtain ⟨z', ez, gz⟩ := (fZ ⟨0, 16, [frC f S L (.own 6 (k + 3) ver 0 f.slots.length)], 0⟩ ⟨0, 3, [encO o], 0⟩ ⟨0, 16, [frC f S L (.own 6 (k + 3) ver 0 f.slots.length)], 0⟩).exp' (cl_slts _)
      refine ⟨frC (setSlot f n ⟨2, noK, o⟩) (encL 2 encV a') (encL 2 encV b') (encL 6 encSlt z'), ?_, ⟨a', b', z', rfl, ga, gb, gz⟩⟩
      rw [fnc_at rfl, body_eq Try.func39 rfl rfl]
      cases j1 : decide (f.state = 1)
      · simp [argsσ, Vm.results, k1, hzl, hz, k2', hix, hg, k3, ec, e1, e2, c1, c2, hh, hkl, hge2, hnr, hdw, j1, logL, loud, isE, drawChk, ea, eb, ez, setSlot, -List.map_set, -getElem?_pos]
      · have j2 : decide (f.wait = (n : Int)) = false := df (fun h => kk ⟨of_decide_eq_true j1, h⟩)
        simp [argsσ, Vm.results, k1, hzl, hz, k2', hix, hg, k3, ec, e1, e2, c1, c2, hh, hkl, hge2, hnr, hdw, j1, j2, logL, loud, isE, drawChk, ea, eb, ez, setSlot, -List.map_set, -getElem?_pos]
/-! how a frame ends -/
theorem fin_loop (f : Fr) (a b : Option (List Vl)) (z : Option (List Slt)) (hs : (z.getD []).length < 2 ^ 62) {X : Type} (K : Ex × St → Option X) (Q : Option X → Prop) : ∀ (rest : List Slt) (i : Nat) (σ : Nat → D) (T : List Ob), (z.getD []).drop i = rest →
    σ 1 = .ptr 0 0 0 0 → σ 2 = .ptr 1 0 0 0 → σ 24 = encL 6 encSlt z → σ 25 = I (z.getD []).length → σ 26 = I i →
    (∀ σ' T', finT rest = none → σ' 1 = .ptr 0 0 0 0 → σ' 2 = .ptr 1 0 0 0 → Q (K (.exit 0, ⟨σ', ⟨0, 16, [frC f (encL 2 encV a) (encL 2 encV b) (encL 6 encSlt z)], 0⟩ :: ⟨0, 3, [encO o0], 0⟩ :: T', 46⟩))) →
    (∀ σ' T' k, finT rest = some k → σ' 2 = .ptr 1 0 0 0 → σ' 3 = .bool true → Q (K (.ret, ⟨σ', ⟨0, 16, [frC f (encL 2 encV a) (encL 2 encV b) (encL 6 encSlt z)], 0⟩ :: ⟨0, 3, [encO ⟨k, v0⟩], 0⟩ :: T', 46⟩))) →
    Q ((W Try.prog cfg (.loop (loopAt Try.f40 7)) ⟨σ, ⟨0, 16, [frC f (encL 2 encV a) (encL 2 encV b) (encL 6 encSlt z)], 0⟩ :: ⟨0, 3, [encO o0], 0⟩ :: T, 46⟩).bind K)
  | [], i, σ, T, hd, s1, s2, s24, s25, s26, hK, hR => by
    have hi : ¬ (i < (z.getD []).length) := by have := congrArg List.length hd; simp at this; omega
    rw [Wloop]
    conv => arg 1; arg 1; arg 1; simp [loopAt, loopIn, headId, Try.f40, s24, s25, s26, hi]
    exact hK _ _ rfl (by simp [s1]) (by simp [s2])
  | y :: rest, i, σ, T, hd, s1, s2, s24, s25, s26, hK, hR => by
    obtain ⟨hg1, hd1, hi⟩ := drop_get hd
    have hlt : decide (i < (z.getD []).length) = true := dt hi
    have hx := idxD_nat .i64 hi
    have hw : IntKind.i64.wrap ((i : Int) + 1) = ((i + 1 : Nat) : Int) := wr (by omega) (by omega)
    unfold finT at hK hR
    cases k1 : decide (y.state = 2)
    · have m1 := of_decide_eq_false k1
      rw [if_neg (fun h => m1 h.1)] at hK hR
      rw [Wloop]
      conv => arg 1; arg 1; arg 1; simp [loopAt, loopIn, headId, Try.f40, s24, s25, s26, hlt, hx, hg1, k1, hw]
      rw [Option.bind_some, loopK_normal]
      exact fin_loop f a b z hs K Q rest (i + 1) _ _ hd1 (by simp [s1]) (by simp [s2]) (by simp [s24]) (by simp [s25]) (by simp) hK hR
    have m1 := of_decide_eq_true k1
    cases k2 : decide (y.out.trap = 0)
    · have m2 := of_decide_eq_false k2
      rw [if_pos ⟨m1, m2⟩] at hR
      rw [Wloop]
      conv => arg 1; arg 1; arg 1; simp [loopAt, loopIn, headId, Try.f40, s2, s24, s25, s26, hlt, hx, hg1, k1, k2, hw]
      exact hR _ _ _ rfl (by simp [s2]) (by simp)
    · have m2 := of_decide_eq_true k2
      rw [if_neg (fun h => h.2 m2)] at hK hR
      rw [Wloop]
      conv => arg 1; arg 1; arg 1; simp [loopAt, loopIn, headId, Try.f40, s24, s25, s26, hlt, hx, hg1, k1, k2, hw]
      rw [Option.bind_some, loopK_normal]
      exact fin_loop f a b z hs K Q rest (i + 1) _ _ hd1 (by simp [s1]) (by simp [s2]) (by simp [s24]) (by simp [s25]) (by simp) hK hR
theorem final_spec (f : Fr) (a b : Option (List Vl)) (z : Option (List Slt)) (hz : z.getD [] = f.slots) (h3 : f.slots.length < 2 ^ 62) :
    fnc Try.prog cfg R 40 [frC f (encL 2 encV a) (encL 2 encV b) (encL 6 encSlt z)] = some (.tup [encO (finF f).1, .bool (finF f).2]) := by
  have exz : ∀ (h : List Ob) (z : Option (List Slt)), exp1 h (encL 6 encSlt z) = some (encL 6 encSlt z) := fun h z => exp_clean (by simp) (by simp)
  have hC := contains_slt z (fun s => s.state == 1) 66 [] rfl rfl rfl fin1_spec (by rw [hz]; omega)
  rw [hz] at hC
  rw [fnc_at rfl, body_eq Try.func40 rfl rfl]
  unfold finF
  cases k1 : decide (f.state = 2)
  case false =>
    rw [if_pos (.inl (of_decide_eq_false k1))]
    simp [argsσ, Vm.results, k1, o0, v0]
  have m1 := of_decide_eq_true k1
  cases k2 : f.slots.any (fun s => s.state == 1)
  case true =>
    rw [if_pos (.inr rfl)]
    rw [k2] at hC
    simp [argsσ, Vm.results, k1, exz, hC, o0, v0]
  rw [k2] at hC
  rw [if_neg (by simp [m1])]
  cases k3 : decide (f.out.trap = 0)
  case false =>
    rw [if_pos (of_decide_eq_false k3)]
    simp [argsσ, Vm.results, k1, exz, hC, k3]
  have m3 := of_decide_eq_true k3
  rw [if_neg (by simpa using m3)]
  simp [argsσ, k1, exz, hC, k3, Option.bind_assoc]
  refine fin_loop f a b z (by rw [hz]; exact h3) _ (fun o => o = some _) f.slots 0 _ _ (by simp [hz]) (by simp) (by simp) (by simp) (by simp [hz]) (by simp) ?_ ?_
  · intro σ' T' h t1 t2
    rw [h]
    simp [t1, t2, Vm.results]
  · intro σ' T' k h t2 t3
    rw [h]
    simp [t2, t3, Vm.results, v0]
end Go.Proofs.YtlpadffinfijgaaW.Rg
set_option linter.unusedVariables false
set_option linter.unusedSimpArgs false
namespace Go.Proofs.YtlpadffinfijgaaW.Rg
open Go.Proofs.YtlpadffinfijgaaW.Vm Go.Proofs.YtlpadffinfijgaaW.Md
open Go Go.Proofs
def fr0 : Fr := ⟨0, 0, [], [], [], 0, 0, 0, 0, 0, o0, ⟨0, 0⟩, 0⟩
theorem any_may (l : List Vl) : l.any (fun x => !x.may) = !l.all Vl.may := by
  induction l with
  | nil => rfl
  | cons x l ih => simp [ih]
theorem new_spec (p : Option (List Fu)) (hl : (p.getD []).length < 2 ^ 63) (fn : Int) (args : Option (List Vl)) (s : Int) (ha : (args.getD []).length < 2 ^ 62) :
    ∃ d, fnc Try.prog cfg R 22 [encProg p, I fn, encL 2 encV args, I s] = some (.tup [d, .bool (newF (p.getD []) fn (args.getD []) s).isSome]) ∧ IsF d ((newF (p.getD []) fn (args.getD []) s).getD fr0) := by
  have hM := may_spec p hl
  have zz : IsF zF fr0 := ⟨none, none, none, rfl, rfl, rfl, rfl⟩
  have hC := contains_val args (fun x => !x.may) 34 [] rfl rfl rfl new1_spec (by omega)
  rw [any_may] at hC
  have no : newF (p.getD []) fn (args.getD []) s = none → (fnc Try.prog cfg R 22 [encProg p, I fn, encL 2 encV args, I s] = some (.tup [zF, .bool false])) → ∃ d, fnc Try.prog cfg R 22 [encProg p, I fn, encL 2 encV args, I s] = some (.tup [d, .bool (newF (p.getD []) fn (args.getD []) s).isSome]) ∧ IsF d ((newF (p.getD []) fn (args.getD []) s).getD fr0) := by
    intro h1 h2; rw [h1]; exact ⟨zF, h2, zz⟩
  cases k1 : mayP (p.getD [])
  · refine no (by unfold newF; rw [if_neg (fun h => by rw [k1] at h; cases h.1)]) ?_
    rw [k1] at hM
    rw [fnc_at rfl, body_eq Try.func22 rfl rfl]
    simp [argsσ, Vm.results, hM]
  rw [k1] at hM
  cases k2 : decide (fn < 0)
  case true =>
    refine no (by unfold newF; rw [if_neg (fun h => by have := of_decide_eq_true k2; have := h.2.1; omega)]) ?_
    rw [fnc_at rfl, body_eq Try.func22 rfl rfl]
    simp [argsσ, Vm.results, hM, k2]
  have m2 := of_decide_eq_false k2
  cases k3 : decide (((p.getD []).length : Int) ≤ fn)
  case true =>
    refine no (by unfold newF; rw [if_neg (fun h => by have := of_decide_eq_true k3; have := h.2.2.1; omega)]) ?_
    rw [fnc_at rfl, body_eq Try.func22 rfl rfl]
    simp [argsσ, Vm.results, hM, k2, k3]
  have m3 := of_decide_eq_false k3
  cases k4 : decide (s < 0)
  case true =>
    refine no (by unfold newF; rw [if_neg (fun h => by have := of_decide_eq_true k4; have := h.2.2.2; unfold isS at this; simp at this; omega)]) ?_
    rw [fnc_at rfl, body_eq Try.func22 rfl rfl]
    simp [argsσ, Vm.results, hM, k2, k3, k4]
  cases k5 : decide (4294967295 < s)
  case true =>
    refine no (by unfold newF; rw [if_neg (fun h => by have := of_decide_eq_true k5; have := h.2.2.2; unfold isS at this; simp at this; omega)]) ?_
    rw [fnc_at rfl, body_eq Try.func22 rfl rfl]
    simp [argsσ, Vm.results, hM, k2, k3, k4, k5]
  have hs : isS s = true := by unfold isS; have := of_decide_eq_false k4; have := of_decide_eq_false k5; exact decide_eq_true (by omega)
  obtain ⟨n, rfl⟩ : ∃ n : Nat, fn = n := ⟨fn.toNat, by omega⟩
  have k3' : decide ((p.getD []).length ≤ n) = false := df (by omega)
  have hn : n < (p.getD []).length := by omega
  have hix := idxD_nat .i64 hn
  have hg : (p.getD [])[n]? = some (p.getD [])[n] := List.getElem?_eq_getElem hn
  have hfm := mayP_f k1 (List.getElem_mem hn)
  have hh := fmay_head hfm
  have hnew : newF (p.getD []) n (args.getD []) s = if (p.getD [])[n].arity ≤ (p.getD [])[n].locals ∧ ((args.getD []).length : Int) = (p.getD [])[n].arity ∧ (args.getD []).all Vl.may = true then
        some ⟨n, 0, [], args.getD [] ++ List.replicate ((p.getD [])[n].locals.toNat - (args.getD []).length) v0, List.replicate (p.getD [])[n].slots.toNat s0, s, 0, 0, 0, 0, o0, noK, 0⟩ else none := by
    unfold newF
    rw [if_pos ⟨k1, by omega, by omega, hs⟩, Int.toNat_natCast, hg]
  generalize (p.getD [])[n] = x at *
  cases j1 : decide (x.locals < x.arity)
  case true =>
    refine no (by rw [hnew, if_neg (fun h => by have := of_decide_eq_true j1; omega)]) ?_
    rw [fnc_at rfl, body_eq Try.func22 rfl rfl]
    simp [argsσ, Vm.results, hM, k2, k3', k4, k5, hix, hg, j1]
  have n1 := of_decide_eq_false j1
  cases j2 : decide (((args.getD []).length : Int) = x.arity)
  case false =>
    refine no (by rw [hnew, if_neg (fun h => (of_decide_eq_false j2) h.2.1)]) ?_
    rw [fnc_at rfl, body_eq Try.func22 rfl rfl]
    simp [argsσ, Vm.results, hM, k2, k3', k4, k5, hix, hg, j1, j2]
  have n2 := of_decide_eq_true j2
  cases j3 : (args.getD []).all Vl.may
  case false =>
    refine no (by rw [hnew, if_neg (fun h => by rw [j3] at h; cases h.2.2)]) ?_
    rw [j3] at hC
    rw [fnc_at rfl, body_eq Try.func22 rfl rfl]
    simp [argsσ, Vm.results, hM, k2, k3', k4, k5, hix, hg, j1, j2, hC]
  rw [j3] at hC
  rw [hnew, if_pos ⟨by omega, n2, j3⟩]
  obtain ⟨l, hl'⟩ : ∃ l : Nat, x.locals = l := ⟨x.locals.toNat, by have := hh.2.2.1; omega⟩
  obtain ⟨q, hq'⟩ : ∃ q : Nat, x.slots = q := ⟨x.slots.toNat, by have := hh.2.2.2.2.1; omega⟩
  have hl16 : l ≤ 16 := by have := hh.2.2.2.1; omega
  have hq8 : q ≤ 8 := by have := hh.2.2.2.2.2; omega
  have hal : (args.getD []).length ≤ l := by omega
  refine ⟨frC ⟨n, 0, [], args.getD [] ++ List.replicate (l - (args.getD []).length) v0, List.replicate q s0, s, 0, 0, 0, 0, o0, noK, 0⟩ .snil (encL 2 encV (some (args.getD [] ++ List.replicate (l - (args.getD []).length) v0))) (encL 6 encSlt (some (List.replicate q s0))), ?_, ?_⟩
  · have mk1 := fun (h : List Ob) => mk_slice (P := Try.prog) el24 sz30 by30 ze30 (by simp) (by decide) (by decide) h .i64 .i64 l l (by omega) (by omega) (by omega)
    have mk2 := fun (h : List Ob) => mk_slice (P := Try.prog) el58 sz111 by111 ze111 (by simp) (by decide) (by decide) h .i64 .i64 q q (by omega) (by omega) (by omega)
    simp only [Int.toNat_natCast] at mk1 mk2
    have r1 : List.replicate l (D.agg [.int .i64 0, .int .i64 0]) = (List.replicate l v0).map encV := by simp [v0]
    have r2 : List.replicate q (D.agg [.int .i64 0, .int .i64 0, .int .i64 0, .int .i64 0, .int .i64 0, .int .i64 0]) = (List.replicate q s0).map encSlt := by simp [s0, o0, v0]
    rw [r1] at mk1
    rw [r2] at mk2
    have cp : ∀ (a b : Ob), ∃ k : D, cpN 2 [a, b, ⟨0, 2, (List.replicate l v0).map encV, 0⟩] (.own 2 2 0 0 l) (Nat.min (args.getD []).length l) ((args.getD []).map encV) = some (k, [a, b, ⟨0, 2, (args.getD [] ++ List.replicate (l - (args.getD []).length) v0).map encV, 0⟩]) := by
      intro a b
      have hm : Nat.min (args.getD []).length l = (args.getD []).length := Nat.min_eq_left hal
      rw [hm]
      unfold cpN
      by_cases h0 : (args.getD []).length = 0
      · rw [if_pos h0]
        have : args.getD [] = [] := List.length_eq_zero_iff.1 h0
        rw [this]; exact ⟨.int .i64 0, by simp⟩
      · rw [if_neg h0]
        refine ⟨.int .i64 (args.getD []).length, ?_⟩
        simp
        rw [List.take_of_length_le (by simp)]
    simp only [← hl'] at mk1
    simp only [← hq'] at mk2
    obtain ⟨kk, cp⟩ := cp ⟨0, 16, [zF], 0⟩ ⟨0, 4, [encFunc x], 0⟩
    have hnr := noRef_spec
    simp only [encRf, noK] at hnr
    have hd := dr22_8
    simp [opsAt, opsIn, Try.f22] at hd
    have hdw := Wdraw hd
    clear hd
    have cl1 := cl_vals (args.getD [] ++ List.replicate (l - (args.getD []).length) v0)
    have cl2 := cl_slts (List.replicate q s0)
    have hlen : (args.getD []).length + (l - (args.getD []).length) = l := by omega
    have tk1 : ((args.getD [] ++ List.replicate (l - (args.getD []).length) v0).map encV).take l = (args.getD [] ++ List.replicate (l - (args.getD []).length) v0).map encV := List.take_of_length_le (by simp; omega)
    have tk2 : ((List.replicate q s0).map encSlt).take q = (List.replicate q s0).map encSlt := List.take_of_length_le (by simp)
    rw [fnc_at rfl, body_eq Try.func22 rfl rfl]
    simp [argsσ, Vm.results, hM, k2, k3', k4, k5, hix, hg, j1, j2, hC, mk1, mk2, cp, hnr, hdw, exp_own, elsOf_own, hlen, tk1, tk2, cl1, cl2, ownK_clean, logL, loud, isE, drawChk, -List.map_append, -List.map_replicate]
    simp [encL, o0, v0, noK]
  · exact ⟨none, some _, some _, rfl, rfl, by rw [hl']; simp, by rw [hq']; simp⟩
end Go.Proofs.YtlpadffinfijgaaW.Rg
