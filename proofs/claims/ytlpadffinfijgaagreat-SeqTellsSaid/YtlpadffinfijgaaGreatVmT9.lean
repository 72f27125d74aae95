/- The document: what an instruction does, a child's end is given, how a frame ends. No conditions. -/
import Derived.Test.YtlpadffinfijgaaGreatVmT8
import Derived.Test.YtlpadffinfijgaaGreatVmGF
set_option linter.unusedVariables false
set_option linter.unusedSimpArgs false
namespace Go.Proofs.YtlpadffinfijgaaGreatW.Rg
open Go.Proofs.YtlpadffinfijgaaGreatW.Vm Go.Proofs.YtlpadffinfijgaaGreatW.Md
open Go Go.Proofs
/-- THE DOCUMENT: WHAT AN INSTRUCTION DOES WITH A FRAME. -/
theorem rdo_spec (p : Option (List Fu)) (f : Fr) (d : D) (hd : IsF d f) (hl1 : f.stack.length ≤ 2 ^ 40) (hl2 : f.locals.length ≤ 2 ^ 40) (hl3 : f.slots.length ≤ 2 ^ 40) (hcl : ∀ g ∈ p.getD [], g.c.length < 2 ^ 62) (hpl : (p.getD []).length < 2 ^ 63) (hoB : ∀ x, offP (p.getD []) x ≤ 2 ^ 63 - 1) :
    Qd (doF (p.getD []) f).1 (doF (p.getD []) f).2 (fnc Tryz.prog cfg R 33 [encProg p, d]) := by
  obtain ⟨a, b, z, rfl, ha, hb, hz⟩ := hd
  by_cases h : f.state ≠ 0 ∨ f.fn < 0 ∨ ((p.getD []).length : Int) ≤ f.fn
  · have e : doF (p.getD []) f = (f, acN 0) := by unfold doF; rw [if_pos h]
    rw [e]
    exact rdo_early p f a b z ha hb hz h
  · obtain ⟨n, hn⟩ : ∃ n : Nat, f.fn = n := ⟨f.fn.toNat, by omega⟩
    have hnl : n < (p.getD []).length := by omega
    have hg : (p.getD [])[n]? = some (p.getD [])[n] := List.getElem?_eq_getElem hnl
    exact rdo_main p f a b z ha hb hz (by omega) n hn _ hg hl1 hl2 hl3 (hcl _ (List.getElem_mem _)) hoB
theorem rgive_spec (f : Fr) (a b : Option (List Vl)) (z : Option (List Slt)) (ha : a.getD [] = f.stack) (hb : b.getD [] = f.locals) (hz : z.getD [] = f.slots) (i : Int) (o : Ou) (h1 : f.stack.length ≤ 2 ^ 40) (h2 : f.locals.length ≤ 2 ^ 40) (h3 : f.slots.length ≤ 2 ^ 40) :
    ∃ d, fnc Tryz.prog cfg R 34 [frC f (encL 2 encV a) (encL 2 encV b) (encL 6 encSlt z), I i, encO o] = some (.tup [d, .bool (giveF f i o).2]) ∧ IsF d (giveF f i o).1 := by
  have exz : ∀ (h : List Ob) (z : Option (List Slt)), exp1 h (encL 6 encSlt z) = some (encL 6 encSlt z) := fun h z => exp_clean (by simp) (by simp)
  have hzl : (z.getD []).length = f.slots.length := by rw [hz]
  by_cases hc : i < 0 ∨ (f.slots.length : Int) ≤ i ∨ (slotAt f i).state ≠ 1
  · have e : giveF f i o = (f, false) := by unfold giveF; rw [if_pos hc]
    rw [e]
    refine ⟨frC f (encL 2 encV a) (encL 2 encV b) (encL 6 encSlt z), ?_, ⟨a, b, z, rfl, ha, hb, hz⟩⟩
    rw [fnc_at rfl, body_eq Tryz.func34 rfl rfl]
    cases k1 : decide (i < 0)
    case true => simp [argsσ, Vm.results, k1, exz]
    cases k2 : decide ((f.slots.length : Int) ≤ i)
    case true => simp [argsσ, Vm.results, k1, hzl, k2, exz]
    have m1 := of_decide_eq_false k1; have m2 := of_decide_eq_false k2
    obtain ⟨n, rfl⟩ : ∃ n : Nat, i = n := ⟨i.toNat, by omega⟩
    have hn : n < f.slots.length := by omega
    have hsl := slotAt_get hn (n : Int) rfl
    have hix := idxD_nat .i64 hn
    have hg : f.slots[n]? = some f.slots[n] := List.getElem?_eq_getElem hn
    rw [hsl] at hc
    generalize f.slots[n] = s at *
    have k3 : decide (s.state = 1) = false := df (by omega)
    have k2' : decide (f.slots.length ≤ n) = false := df (by omega)
    have hmx : (if (n : Int) < 0 then 0 else (n : Int)) = n := if_neg (by omega)
    simp [argsσ, Vm.results, k1, hzl, hz, k2', hix, hg, k3, exz, bt_max, hmx]
  · have k1 : decide (i < 0) = false := df (by omega)
    have k2 : decide ((f.slots.length : Int) ≤ i) = false := df (by omega)
    obtain ⟨n, rfl⟩ : ∃ n : Nat, i = n := ⟨i.toNat, by omega⟩
    have k2' : decide (f.slots.length ≤ n) = false := df (by omega)
    have hmx : (if (n : Int) < 0 then 0 else (n : Int)) = n := if_neg (by omega)
    have hn : n < f.slots.length := by omega
    have hsl := slotAt_get hn (n : Int) rfl
    have hix := idxD_nat .i64 hn
    have hg : f.slots[n]? = some f.slots[n] := List.getElem?_eq_getElem hn
    have k3 : decide (f.slots[n].state = 1) = true := dt (by rw [hsl] at hc; omega)
    have e : giveF f n o = (if f.state = 1 ∧ f.wait = n then { setSlot f n ⟨2, noK, o⟩ with state := 0, wait := 0 } else setSlot f n ⟨2, noK, o⟩, true) := by unfold giveF; rw [if_neg hc]
    rw [e]
    obtain ⟨S, L, Z, t, ec, FV, lo⟩ := copy_spec f a b z (H := [⟨0, 16, [frC f (encL 2 encV a) (encL 2 encV b) (encL 6 encSlt z)], 0⟩, ⟨0, 3, [encO o], 0⟩, ⟨0, 16, [zF], 0⟩]) ha hb hz h1 h2 h3
    simp only [List.length_cons, List.length_nil] at lo
    have n1 := FV.s.one; have n2 := FV.l.one
    obtain ⟨r, hr⟩ : ∃ r, t.length + 1 + 1 + 1 = r := ⟨_, rfl⟩
    obtain ⟨K0, hK0⟩ : ∃ K0 : List Ob, ⟨0, 16, [frC f (encL 2 encV a) (encL 2 encV b) (encL 6 encSlt z)], 0⟩ :: ⟨0, 3, [encO o], 0⟩ :: ⟨0, 16, [zF], 0⟩ :: (t ++ [⟨0, 16, [frC f S L Z], 0⟩]) = K0 := ⟨_, rfl⟩
    have gz : ∀ a b c o : Ob, (a :: b :: c :: (t ++ [o]))[r]? = some o := fun a b c o => by rw [← hr]; simp
    have sz : ∀ a b c o o' : Ob, (a :: b :: c :: (t ++ [o])).set r o' = a :: b :: c :: (t ++ [o']) := fun a b c o o' => by rw [← hr]; simp
    have hlK : K0.length = r + 1 := by rw [← hK0, ← hr]; simp
    have FK : Fv K0 f S L Z := by
      have := FV.app [⟨0, 16, [frC f S L Z], 0⟩]
      rw [← hK0]; simpa using this
    have nl : ∀ i, Fp S L Z .snil i → i < r := fun i hi => by
      have := FV.nlt (vs := []) (V := .snil) (.inl ⟨rfl, rfl⟩) i hi
      simp at this; omega
    obtain ⟨id, ver, rest, rfl, hh, hel, _⟩ := FK.z.ix (t := 41) un41 sz82 hn
    have hidr := nl id (.inr (.inr (.inl rfl)))
    have hid3 := lo id (.inr (.inr (.inl rfl)))
    have hkl : id < K0.length := by omega
    have hrl : r < K0.length := by omega
    have h2l : 2 < K0.length := by omega
    have gr : K0[r]? = some ⟨0, 16, [frC f S L (.own 6 id ver 0 f.slots.length)], 0⟩ := by rw [← hK0]; exact gz _ _ _ _
    have g1 : K0[1]? = some ⟨0, 3, [encO o], 0⟩ := by rw [← hK0]; rfl
    have g2 : K0[2]? = some ⟨0, 16, [zF], 0⟩ := by rw [← hK0]; rfl
    have s1 : ∀ x : Ob, (K0.set id x)[r]? = some ⟨0, 16, [frC f S L (.own 6 id ver 0 f.slots.length)], 0⟩ := fun x => by rw [List.getElem?_set_ne (by omega), gr]
    have s2 : ∀ x : Ob, (K0.set id x)[2]? = some ⟨0, 16, [zF], 0⟩ := fun x => by rw [List.getElem?_set_ne (by omega), g2]
    have s3 : ∀ x y : Ob, ((K0.set id x).set r y)[r]? = some y := fun x y => List.getElem?_set_self (by simpa using hrl)
    have s4 : ∀ x y : Ob, ((K0.set id x).set r y)[2]? = some ⟨0, 16, [zF], 0⟩ := fun x y => by rw [List.getElem?_set_ne (by omega), s2]
    have s5 : ∀ x y w : Ob, (((K0.set id x).set r y).set 2 w)[2]? = some w := fun x y w => List.getElem?_set_self (by simpa using h2l)
    have s6 : ∀ x w : Ob, ((K0.set id x).set 2 w)[2]? = some w := fun x w => List.getElem?_set_self (by simpa using h2l)
    have c1 := FK.s.cells; have c2 := FK.l.cells
    have hset : (f.slots.map encSlt ++ rest).set n (.agg [I 2, I (-1), I 0, I o.trap, I o.v.re, I o.v.im]) = (setSlot f n ⟨2, noK, o⟩).slots.map encSlt ++ rest := by
      unfold setSlot
      rw [List.set_append_left _ _ (by simpa using hn), show ((n : Int)).toNat = n by omega, List.map_set]; rfl
    have kS : ∀ {zz xs d} (x : Ob), IsS K0 zz xs d → (∀ i, At d i → i ≠ id) → IsS (K0.set id x) zz xs d := fun x hd hne => hd.set (fun h => hne id h rfl) x
    have kr : ∀ {zz xs d H}, IsS H zz xs d → (∀ i, At d i → 3 ≤ i ∧ i < r) → ∀ y w : Ob, IsS ((H.set r y).set 2 w) zz xs d := fun hd hb y w =>
      (hd.set (fun h => by have := hb r h; omega) y).set (fun h => by have := hb 2 h; omega) w
    have kr2 : ∀ {zz xs d H}, IsS H zz xs d → (∀ i, At d i → 3 ≤ i ∧ i < r) → ∀ w : Ob, IsS (H.set 2 w) zz xs d := fun hd hb w =>
      hd.set (fun h => by have := hb 2 h; omega) w
    have bS : ∀ i, At S i → 3 ≤ i ∧ i < r := fun i hi => ⟨lo i (.inl hi), nl i (.inl hi)⟩
    have bL : ∀ i, At L i → 3 ≤ i ∧ i < r := fun i hi => ⟨lo i (.inr (.inl hi)), nl i (.inr (.inl hi))⟩
    have bZ : ∀ i, At (.own 6 id ver 0 f.slots.length) i → 3 ≤ i ∧ i < r := fun i hi => ⟨lo i (.inr (.inr (.inl hi))), nl i (.inr (.inr (.inl hi)))⟩
    obtain ⟨w, hw⟩ : ∃ w : Ob, w = ⟨ver, 6, (f.slots.map encSlt ++ rest).set n (.agg [I 2, I (-1), I 0, I o.trap, I o.v.re, I o.v.im]), 0⟩ := ⟨_, rfl⟩
    have fS := kS w FK.s (fun i hi he => FK.sz i hi (by rw [he]; rfl))
    have fL := kS w FK.l (fun i hi he => FK.lz i hi (by rw [he]; rfl))
    have fZ : IsS (K0.set id w) 6 ((setSlot f n ⟨2, noK, o⟩).slots.map encSlt) (.own 6 id ver 0 f.slots.length) :=
      .inr (.inr ⟨id, ver, rest, by unfold setSlot; simp, by rw [hw, hset]; exact List.getElem?_set_self hkl⟩)
    have xS := fun y w => ((kr fS bS y w).expO (cl_vals _)).1
    have xL := fun y w => ((kr fL bL y w).expO (cl_vals _)).1
    have xZ := fun y w => ((kr fZ bZ y w).expO (cl_slts _)).1
    have xS2 := fun w => ((kr2 fS bS w).expO (cl_vals _)).1
    have xL2 := fun w => ((kr2 fL bL w).expO (cl_vals _)).1
    have xZ2 := fun w => ((kr2 fZ bZ w).expO (cl_slts _)).1
    have y1 := (fS.expO (cl_vals _)).2; have y2 := (fL.expO (cl_vals _)).2; have y3 := (fZ.expO (cl_slts _)).2
    rw [hw] at xS xL xZ xS2 xL2 xZ2
    by_cases kk : f.state = 1 ∧ f.wait = n
    · rw [if_pos kk]
      have j1 : decide (f.state = 1) = true := dt kk.1
      have j2 : decide (f.wait = (n : Int)) = true := dt kk.2
      refine ⟨frC { setSlot f n ⟨2, noK, o⟩ with state := 0, wait := 0 } (encL 2 encV (oS f.stack S)) (encL 2 encV (oS f.locals L)) (encL 6 encSlt (oS (setSlot f n ⟨2, noK, o⟩).slots (.own 6 id ver 0 f.slots.length))), ?_, ⟨_, _, _, rfl, y1, y2, y3⟩⟩
      generalize oS (setSlot f n ⟨2, noK, o⟩).slots (.own 6 id ver 0 f.slots.length) = ozz at *
      rw [fnc_at rfl, body_eq Tryz.func34 rfl rfl]
      simp [argsσ, Vm.results, k1, hzl, hz, k2', hix, hg, k3, bt_max, hmx, ec, n1, n2, hr, gz, sz, hK0, c1, c2, hh, hkl, hrl, h2l, hel, gr, g1, g2, s1, s2, s3, s4, s5, s6, j1, j2, logL, loud, isE, drawChk, xS, xL, xZ, setSlot, -List.map_set, -getElem?_pos]
    · rw [if_neg kk]
      refine ⟨frC (setSlot f n ⟨2, noK, o⟩) (encL 2 encV (oS f.stack S)) (encL 2 encV (oS f.locals L)) (encL 6 encSlt (oS (setSlot f n ⟨2, noK, o⟩).slots (.own 6 id ver 0 f.slots.length))), ?_, ⟨_, _, _, rfl, y1, y2, y3⟩⟩
      generalize oS (setSlot f n ⟨2, noK, o⟩).slots (.own 6 id ver 0 f.slots.length) = ozz at *
      rw [fnc_at rfl, body_eq Tryz.func34 rfl rfl]
      cases j1 : decide (f.state = 1)
      · simp [argsσ, Vm.results, k1, hzl, hz, k2', hix, hg, k3, bt_max, hmx, ec, n1, n2, hr, gz, sz, hK0, c1, c2, hh, hkl, hrl, h2l, hel, gr, g1, g2, s1, s2, s3, s4, s5, s6, j1, logL, loud, isE, drawChk, xS2, xL2, xZ2, setSlot, -List.map_set, -getElem?_pos]
      · have j2 : decide (f.wait = (n : Int)) = false := df (fun h => kk ⟨of_decide_eq_true j1, h⟩)
        simp [argsσ, Vm.results, k1, hzl, hz, k2', hix, hg, k3, bt_max, hmx, ec, n1, n2, hr, gz, sz, hK0, c1, c2, hh, hkl, hrl, h2l, hel, gr, g1, g2, s1, s2, s3, s4, s5, s6, j1, j2, logL, loud, isE, drawChk, xS2, xL2, xZ2, setSlot, -List.map_set, -getElem?_pos]
/-! how a frame ends -/
def finO (f : Fr) (l : List Slt) : Ou := if f.out.trap = 0 then (match finT l with | some c => ⟨c, v0⟩ | none => f.out) else f.out
theorem rfin_loop (f : Fr) (a b : Option (List Vl)) (z : Option (List Slt)) (hz : z.getD [] = f.slots) (h3 : f.slots.length < 2 ^ 62) {X : Type} (K : Ex × St → Option X) (Q : Option X → Prop) : ∀ (n : Nat) (σ : Nat → D) (O : Ou), n ≤ f.slots.length →
    (f.slots.drop n).any (fun s => s.state == 1) = false → O = finO f (f.slots.drop n) → σ 1 = .ptr 0 0 0 0 → σ 2 = .ptr 1 0 0 0 → σ 4 = .ptr 2 0 0 0 → σ 5 = I ((n : Int) - 1) →
    (∀ σ', f.slots.any (fun s => s.state == 1) = false → σ' 2 = .ptr 1 0 0 0 → σ' 4 = .ptr 2 0 0 0 → Q (K (.exit 0, ⟨σ', [⟨0, 16, [frC f (encL 2 encV a) (encL 2 encV b) (encL 6 encSlt z)], 0⟩, ⟨0, 3, [encO o0], 0⟩, ⟨0, 3, [encO (finO f f.slots)], 0⟩], 60⟩))) →
    (∀ σ' T', f.slots.any (fun s => s.state == 1) = true → σ' 2 = .ptr 1 0 0 0 → σ' 3 = .bool false → Q (K (.ret, ⟨σ', ⟨0, 16, [frC f (encL 2 encV a) (encL 2 encV b) (encL 6 encSlt z)], 0⟩ :: ⟨0, 3, [encO o0], 0⟩ :: T', 60⟩))) →
    Q ((W Tryz.prog cfg (.loop (loopAt Tryz.f35 5)) ⟨σ, [⟨0, 16, [frC f (encL 2 encV a) (encL 2 encV b) (encL 6 encSlt z)], 0⟩, ⟨0, 3, [encO o0], 0⟩, ⟨0, 3, [encO O], 0⟩], 60⟩).bind K)
  | 0, σ, O, hn, hd, hO, s1, s2, s4, s5, hK, hR => by
    rw [Wloop]
    conv => arg 1; arg 1; arg 1; simp [loopAt, loopIn, headId, Tryz.f35, s5]
    rw [hO]
    rw [List.drop_zero] at hd
    exact hK _ hd (by simp [s2]) (by simp [s4])
  | n + 1, σ, O, hn, hd, hO, s1, s2, s4, s5, hK, hR => by
    have hn1 : n < f.slots.length := by omega
    have hg : f.slots[n]? = some f.slots[n] := List.getElem?_eq_getElem hn1
    have hdn : f.slots.drop n = f.slots[n] :: f.slots.drop (n + 1) := List.drop_eq_getElem_cons hn1
    have hmem : f.slots[n] ∈ f.slots := List.getElem_mem hn1
    generalize f.slots[n] = y at *
    have hx := idxD_nat .i64 hn1
    have s5' : σ 5 = I (n : Int) := by rw [s5]; congr 1; omega
    have hge : decide ((0 : Int) ≤ n) = true := dt (by omega)
    have hw : IntKind.i64.wrap ((n : Int) - 1) = (n : Int) - 1 := wr (by omega) (by omega)
    cases k1 : decide (y.state = 1)
    case true =>
      rw [Wloop]
      conv => arg 1; arg 1; arg 1; simp [loopAt, loopIn, headId, Tryz.f35, s1, s2, s4, s5', hz, hge, hx, hg, k1]
      exact hR _ _ (List.any_eq_true.2 ⟨y, hmem, by simpa using of_decide_eq_true k1⟩) (by simp [s2]) (by simp)
    have m1 := of_decide_eq_false k1
    have hd' : (f.slots.drop n).any (fun s => s.state == 1) = false := by rw [hdn, List.any_cons, hd]; simp [m1]
    have no : (y.state ≠ 2 ∨ y.out.trap = 0 ∨ f.out.trap ≠ 0) → finO f (f.slots.drop n) = finO f (f.slots.drop (n + 1)) := by
      intro h
      unfold finO
      by_cases h0 : f.out.trap = 0
      · rw [if_pos h0, if_pos h0, hdn]
        rw [show finT (y :: f.slots.drop (n + 1)) = if y.state = 2 ∧ y.out.trap ≠ 0 then some y.out.trap else finT (f.slots.drop (n + 1)) from rfl, if_neg (by omega)]
      · rw [if_neg h0, if_neg h0]
    have go : ∀ σ' : Nat → D, finO f (f.slots.drop n) = finO f (f.slots.drop (n + 1)) → σ' 1 = .ptr 0 0 0 0 → σ' 2 = .ptr 1 0 0 0 → σ' 4 = .ptr 2 0 0 0 → σ' 5 = I ((n : Int) - 1) → Q ((W Tryz.prog cfg (.loop (loopAt Tryz.f35 5)) ⟨σ', [⟨0, 16, [frC f (encL 2 encV a) (encL 2 encV b) (encL 6 encSlt z)], 0⟩, ⟨0, 3, [encO o0], 0⟩, ⟨0, 3, [encO O], 0⟩], 60⟩).bind K) := fun σ' he q1 q2 q4 q5 =>
      rfin_loop f a b z hz h3 K Q n σ' O (by omega) hd' (by rw [he]; exact hO) q1 q2 q4 q5 hK hR
    clear hO
    cases k2 : decide (y.state = 2)
    case false =>
      have m2 := of_decide_eq_false k2
      rw [Wloop]
      conv => arg 1; arg 1; arg 1; simp [loopAt, loopIn, headId, Tryz.f35, s1, s2, s4, s5', hz, hge, hx, hg, k1, k2, hw]
      rw [Option.bind_some, loopK_normal]
      exact go _ (no (.inl m2)) (by simp [s1]) (by simp [s2]) (by simp [s4]) (by simp)
    cases k3 : decide (y.out.trap = 0)
    case true =>
      rw [Wloop]
      conv => arg 1; arg 1; arg 1; simp [loopAt, loopIn, headId, Tryz.f35, s1, s2, s4, s5', hz, hge, hx, hg, k1, k2, k3, hw]
      rw [Option.bind_some, loopK_normal]
      exact go _ (no (.inr (.inl (of_decide_eq_true k3)))) (by simp [s1]) (by simp [s2]) (by simp [s4]) (by simp)
    cases k4 : decide (f.out.trap = 0)
    case false =>
      rw [Wloop]
      conv => arg 1; arg 1; arg 1; simp [loopAt, loopIn, headId, Tryz.f35, s1, s2, s4, s5', hz, hge, hx, hg, k1, k2, k3, k4, hw]
      rw [Option.bind_some, loopK_normal]
      exact go _ (no (.inr (.inr (of_decide_eq_false k4)))) (by simp [s1]) (by simp [s2]) (by simp [s4]) (by simp)
    have yes : finO f (f.slots.drop n) = ⟨y.out.trap, v0⟩ := by
      unfold finO
      rw [if_pos (of_decide_eq_true k4), hdn]
      rw [show finT (y :: f.slots.drop (n + 1)) = if y.state = 2 ∧ y.out.trap ≠ 0 then some y.out.trap else finT (f.slots.drop (n + 1)) from rfl, if_pos ⟨of_decide_eq_true k2, of_decide_eq_false k3⟩]
    rw [Wloop]
    conv => arg 1; arg 1; arg 1; simp [loopAt, loopIn, headId, Tryz.f35, s1, s2, s4, s5', hz, hge, hx, hg, k1, k2, k3, k4, hw]
    rw [Option.bind_some, loopK_normal]
    exact rfin_loop f a b z hz h3 K Q n _ ⟨y.out.trap, v0⟩ (by omega) hd' yes.symm (by simp [s1]) (by simp [s2]) (by simp [s4]) (by simp) hK hR
theorem finF_eq (f : Fr) : finF f = if f.state ≠ 2 ∨ f.slots.any (fun s => s.state == 1) = true then (o0, false) else (finO f f.slots, true) := by
  unfold finF finO
  split
  · rfl
  · by_cases h : f.out.trap = 0
    · rw [if_neg (by omega), if_pos h]
      cases finT f.slots <;> rfl
    · rw [if_pos h, if_neg h]
theorem rfinal_spec (f : Fr) (a b : Option (List Vl)) (z : Option (List Slt)) (hz : z.getD [] = f.slots) (h3 : f.slots.length < 2 ^ 62) :
    fnc Tryz.prog cfg R 35 [frC f (encL 2 encV a) (encL 2 encV b) (encL 6 encSlt z)] = some (.tup [encO (finF f).1, .bool (finF f).2]) := by
  rw [fnc_at rfl, body_eq Tryz.func35 rfl rfl, finF_eq]
  cases k1 : decide (f.state = 2)
  case false =>
    rw [if_pos (.inl (of_decide_eq_false k1))]
    simp [argsσ, Vm.results, k1, o0, v0]
  have m1 := of_decide_eq_true k1
  have hw : IntKind.i64.wrap ((f.slots.length : Int) - 1) = (f.slots.length : Int) - 1 := wr (by omega) (by omega)
  simp [argsσ, k1, hz, hw, Option.bind_assoc]
  refine rfin_loop f a b z hz h3 _ (fun o => o = some _) f.slots.length _ f.out (Nat.le_refl _) (by simp) (by rw [List.drop_length]; unfold finO finT; simp) (by simp) (by simp) (by simp) (by simp) ?_ ?_
  · intro σ' h t2 t4
    rw [if_neg (by simpa [m1] using h)]
    simp [t2, t4, Vm.results]
  · intro σ' T' h t2 t3
    rw [if_pos (.inr (by simpa using h))]
    simp [t2, t3, Vm.results, o0, v0]
end Go.Proofs.YtlpadffinfijgaaGreatW.Rg
