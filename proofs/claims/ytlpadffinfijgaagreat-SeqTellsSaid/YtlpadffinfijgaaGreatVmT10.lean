/- The document: a new frame. No conditions. -/
import Derived.Test.YtlpadffinfijgaaGreatVmT9
import Derived.Test.YtlpadffinfijgaaGreatVmGF
import Derived.Test.YtlpadffinfijgaaGreatVmAA
set_option linter.unusedVariables false
set_option linter.unusedSimpArgs false
namespace Go.Proofs.YtlpadffinfijgaaGreatW.Rg
open Go.Proofs.YtlpadffinfijgaaGreatW.Vm Go.Proofs.YtlpadffinfijgaaGreatW.Md
open Go Go.Proofs
/-- a new frame's locals so far -/
def nfL (fn s : Int) (l : List Vl) : Fr := ⟨fn, 0, [], l, [], s, 0, 0, 0, 0, o0, ⟨-1, 0⟩, 0⟩
def wsOf (a : List Vl) (l : Nat) : List Vl := a ++ List.replicate (l - a.length) v0
theorem ws_get {a : List Vl} {l i : Nat} (hal : a.length ≤ l) (hi : i < l) : (wsOf a l)[i]? = some ((a[i]?).getD v0) := by
  unfold wsOf
  by_cases h : i < a.length
  · rw [List.getElem?_append_left h, List.getElem?_eq_getElem h]; rfl
  · rw [List.getElem?_append_right (by omega), List.getElem?_eq_none (l := a) (by omega), List.getElem?_replicate, if_pos (by omega)]
    rfl
theorem ws_len {a : List Vl} {l : Nat} (hal : a.length ≤ l) : (wsOf a l).length = l := by unfold wsOf; simp; omega
theorem ws_all (a : List Vl) (l : Nat) : (wsOf a l).all Vl.may = a.all Vl.may := by
  unfold wsOf
  rw [List.all_append]
  have : (List.replicate (l - a.length) v0).all Vl.may = true := List.all_eq_true.2 fun x hx => by rw [(List.mem_replicate.1 hx).2]; decide
  rw [this, Bool.and_true]
theorem take_succ' {α : Type} {l : List α} {i : Nat} {x : α} (h : l[i]? = some x) : l.take (i + 1) = l.take i ++ [x] := by
  rw [List.take_add_one, h]; rfl
theorem sgx (H : List Ob) (o o' : Ob) : (H ++ [o]).set H.length o' = H ++ [o'] := by simp
theorem rnew1 (args : Option (List Vl)) (x : Fu) (fn s : Int) (l : Nat) (hx : x.locals = l) (hal : (args.getD []).length ≤ l) (hl16 : l ≤ 2 ^ 20) {X : Type} (K : Ex × St → Option X) (Q : Option X → Prop) : ∀ (rest : List Vl) (i : Nat) (σ : Nat → D) (H : List Ob) (L : D), (wsOf (args.getD []) l).drop i = rest →
    σ 2 = encL 2 encV args → σ 8 = .ptr 0 0 0 0 → σ 10 = .ptr 1 0 0 0 → σ 11 = .ptr 2 0 0 0 → σ 12 = I i → 3 ≤ H.length →
    H[0]? = some ⟨0, 16, [zF], 0⟩ → H[1]? = some ⟨0, 4, [encFunc x], 0⟩ → H[2]? = some ⟨0, 16, [frC (nfL fn s []) .snil L .snil], 0⟩ →
    IsS H 2 (((wsOf (args.getD []) l).take i).map encV) L → (∀ j, At L j → 3 ≤ j) →
    (∀ σ' H' L', (wsOf (args.getD []) l).all Vl.may = true → σ' 8 = .ptr 0 0 0 0 → σ' 10 = .ptr 1 0 0 0 → σ' 11 = .ptr 2 0 0 0 → 3 ≤ H'.length → H'[0]? = some ⟨0, 16, [zF], 0⟩ → H'[1]? = some ⟨0, 4, [encFunc x], 0⟩ → H'[2]? = some ⟨0, 16, [frC (nfL fn s []) .snil L' .snil], 0⟩ →
      IsS H' 2 ((wsOf (args.getD []) l).map encV) L' → (∀ j, At L' j → 3 ≤ j) → Q (K (.exit 0, ⟨σ', H', 93⟩))) →
    (((wsOf (args.getD []) l).take i).all Vl.may = true) →
    (∀ σ' H', (wsOf (args.getD []) l).all Vl.may = false → σ' 8 = .ptr 0 0 0 0 → σ' 9 = .bool false → H'[0]? = some ⟨0, 16, [zF], 0⟩ → Q (K (.ret, ⟨σ', H', 93⟩))) →
    Q ((W Tryz.prog cfg (.loop (loopAt Tryz.f14 8)) ⟨σ, H, 93⟩).bind K)
  | [], i, σ, H, L, hd, s2, s8, s10, s11, s12, hH, g0, g1, g2, iL, aL, hK, hm, hR => by
    have hwl := ws_len hal
    have hi : l ≤ i := by have := congrArg List.length hd; rw [List.length_drop, hwl] at this; simp at this; omega
    have htk : (wsOf (args.getD []) l).take i = wsOf (args.getD []) l := List.take_of_length_le (by omega)
    rw [htk] at iL hm
    have hlt : decide (i < l) = false := df (by omega)
    rw [Wloop]
    conv => arg 1; arg 1; arg 1; simp [loopAt, loopIn, headId, Tryz.f14, s10, s12, g1, hx, hlt, -getElem?_pos]
    exact hK _ _ _ hm (by simp [s8]) (by simp [s10]) (by simp [s11]) hH g0 g1 g2 iL aL
  | y :: rest, i, σ, H, L, hd, s2, s8, s10, s11, s12, hH, g0, g1, g2, iL, aL, hK, hm, hR => by
    have hwl := ws_len hal
    obtain ⟨hg1, hd1, hi⟩ := drop_get hd
    rw [hwl] at hi
    have hy := ws_get hal hi
    rw [hg1] at hy
    have hy := Option.some.inj hy
    have htk := take_succ' hg1
    have hlt : decide (i < l) = true := dt (by omega)
    have hw : IntKind.i64.wrap ((i : Int) + 1) = ((i + 1 : Nat) : Int) := wr (by omega) (by omega)
    have hM := rMay_spec y
    have q1 : ∀ o : Ob, (H ++ [o])[1]? = some ⟨0, 4, [encFunc x], 0⟩ := fun o => by rw [get_lt (by omega), g1]
    have q2 : ∀ o : Ob, (H ++ [o])[2]? = some ⟨0, 16, [frC (nfL fn s []) .snil L .snil], 0⟩ := fun o => by rw [get_lt (by omega), g2]
    have q0 : ∀ o : Ob, (H ++ [o])[0]? = some ⟨0, 16, [zF], 0⟩ := fun o => by rw [get_lt (by omega), g0]
    have ql : ∀ o : Ob, (H ++ [o])[H.length]? = some o := fun o => by simp
    have qs := sgx H
    have p0 : ∀ o o' : Ob, ((H ++ [o]).set 0 o')[0]? = some o' := fun o o' => List.getElem?_set_self (by simp)
    have l0 : ∀ o : Ob, 0 < (H ++ [o]).length := fun o => by simp
    obtain ⟨L', H', eA, iA, aA, pA, lA⟩ := (iL.app [⟨0, 2, [encV y], 0⟩]).pushD 16 [encV y] (by simp; omega)
    have es := (iL.app [⟨0, 2, [encV y], 0⟩]).els
    have nA := iA.one; have cA := iA.cells
    have nL := iL.one; have cL := iL.cells
    have lA' : H.length + 1 ≤ H'.length := by simpa using lA
    have r0 : H'[0]? = some ⟨0, 16, [zF], 0⟩ := by rw [pA 0 (by simp) (fun h => by have := aL 0 h; omega), q0]
    have r1 : H'[1]? = some ⟨0, 4, [encFunc x], 0⟩ := by rw [pA 1 (by simp; omega) (fun h => by have := aL 1 h; omega), q1]
    have r2 : H'[2]? = some ⟨0, 16, [frC (nfL fn s []) .snil L .snil], 0⟩ := by rw [pA 2 (by simp; omega) (fun h => by have := aL 2 h; omega), q2]
    have l2 : 2 < H'.length := by omega
    have aA' : ∀ j, At L' j → 3 ≤ j := fun j hj => by
      rcases aA j hj with h | h
      · exact aL j h
      · simp at h; omega
    have iB : ∀ o : Ob, IsS (H'.set 2 o) 2 (((wsOf (args.getD []) l).take (i + 1)).map encV) L' := fun o => by
      rw [htk, List.map_append]
      exact iA.set (fun h => by have := aA' 2 h; omega) o
    have eA' : apK 16 2 (H ++ [⟨0, 2, [.agg [I y.re, I y.im]], 0⟩]) L (((wsOf (args.getD []) l).take i).map encV) [.agg [I y.re, I y.im]] = some (L', H') := eA
    have es' : elsZ (H ++ [⟨0, 2, [.agg [I y.re, I y.im]], 0⟩]) 2 L = some (((wsOf (args.getD []) l).take i).map encV) := es
    obtain ⟨pre, hpre⟩ : ∃ pre, (wsOf (args.getD []) l).take i = pre := ⟨_, rfl⟩
    rw [hpre] at eA' es'
    have fin : ∀ σ' : Nat → D, y.may = true → σ' 2 = encL 2 encV args → σ' 8 = .ptr 0 0 0 0 → σ' 10 = .ptr 1 0 0 0 → σ' 11 = .ptr 2 0 0 0 → σ' 12 = I ((i + 1 : Nat) : Int) →
        Q ((W Tryz.prog cfg (.loop (loopAt Tryz.f14 8)) ⟨σ', H'.set 2 ⟨0, 16, [frC (nfL fn s []) .snil L' .snil], 0⟩, 93⟩).bind K) := fun σ' hm2 t2 t8 t10 t11 t12 =>
      rnew1 args x fn s l hx hal hl16 K Q rest (i + 1) σ' _ L' hd1 t2 t8 t10 t11 t12 (by simp; omega) (by rw [List.getElem?_set_ne (by omega), r0]) (by rw [List.getElem?_set_ne (by omega), r1]) (List.getElem?_set_self l2) (iB _) aA' hK (by rw [htk, List.all_append, hm]; simp [hm2]) hR
    have bad : y.may = false → (wsOf (args.getD []) l).all Vl.may = false := fun h => by
      rw [List.all_eq_false]; exact ⟨y, List.mem_of_getElem? hg1, by simp [h]⟩
    cases k1 : decide ((i : Int) < ((args.getD []).length : Int))
    · have hn : ¬ i < (args.getD []).length := fun h => by have := of_decide_eq_false k1; omega
      have hy0 : y = v0 := by rw [hy, List.getElem?_eq_none (by omega)]; rfl
      have hk1' : decide (i < (args.getD []).length) = false := df hn
      rw [hy0] at eA' es' hM
      simp only [v0] at eA' es'
      have hmy : v0.may = true := by decide
      rw [hmy] at hM
      simp only [encV, v0] at hM
      rw [Wloop]
      conv => arg 1; arg 1; arg 1; simp [loopAt, loopIn, headId, Tryz.f14, s2, s8, s10, s11, s12, g1, g2, hx, hlt, k1, hk1', q0, q1, q2, ql, qs, hM, eA', es', nA, cA, nL, cL, r0, r1, r2, l2, logL, loud, isE, drawChk, hw, nfL, -getElem?_pos]
      rw [Option.bind_some, loopK_normal]
      exact fin _ (by rw [hy0]; exact hmy) (by simp [s2]) (by simp [s8]) (by simp [s10]) (by simp [s11]) (by simp)
    · have hn : i < (args.getD []).length := by have := of_decide_eq_true k1; omega
      have hk1' : decide (i < (args.getD []).length) = true := dt hn
      have hix := idxD_nat .i64 hn
      have hg : (args.getD [])[i]? = some y := by rw [hy, List.getElem?_eq_getElem hn]; rfl
      cases km : y.may
      · rw [km] at hM
        rw [Wloop]
        conv => arg 1; arg 1; arg 1; simp [loopAt, loopIn, headId, Tryz.f14, s2, s8, s10, s11, s12, g1, g2, hx, hlt, k1, hk1', q0, q1, q2, ql, qs, hix, hg, hM, p0, l0, -getElem?_pos]
        exact hR _ _ (bad km) (by simp [s8]) (by simp) (by simp [q0])
      · rw [km] at hM
        rw [Wloop]
        conv => arg 1; arg 1; arg 1; simp [loopAt, loopIn, headId, Tryz.f14, s2, s8, s10, s11, s12, g1, g2, hx, hlt, k1, hk1', q0, q1, q2, ql, qs, hix, hg, hM, eA', es', nA, cA, nL, cL, r0, r1, r2, l2, logL, loud, isE, drawChk, hw, nfL, -getElem?_pos]
        rw [Option.bind_some, loopK_normal]
        exact fin _ km (by simp [s2]) (by simp [s8]) (by simp [s10]) (by simp [s11]) (by simp)
theorem rnew2 (x : Fu) (fn s : Int) (q : Nat) (hx : x.slots = q) (hq : q ≤ 2 ^ 20) (ws : List Vl) {X : Type} (K : Ex × St → Option X) (Q : Option X → Prop) : ∀ (k i : Nat) (σ : Nat → D) (H : List Ob) (L Z : D), i + k = q →
    σ 8 = .ptr 0 0 0 0 → σ 10 = .ptr 1 0 0 0 → σ 11 = .ptr 2 0 0 0 → σ 14 = I i → 3 ≤ H.length →
    H[0]? = some ⟨0, 16, [zF], 0⟩ → H[1]? = some ⟨0, 4, [encFunc x], 0⟩ → H[2]? = some ⟨0, 16, [frC (nfL fn s []) .snil L Z], 0⟩ →
    IsS H 2 (ws.map encV) L → (∀ j, At L j → 3 ≤ j) → IsS H 6 ((List.replicate i s0).map encSlt) Z → (∀ j, At Z j → 3 ≤ j) → (∀ j, At L j → ¬ At Z j) →
    (∀ σ' H' Z', σ' 8 = .ptr 0 0 0 0 → σ' 11 = .ptr 2 0 0 0 → 3 ≤ H'.length → H'[0]? = some ⟨0, 16, [zF], 0⟩ → H'[2]? = some ⟨0, 16, [frC (nfL fn s []) .snil L Z'], 0⟩ →
      IsS H' 2 (ws.map encV) L → (∀ j, At L j → 3 ≤ j) → IsS H' 6 ((List.replicate q s0).map encSlt) Z' → (∀ j, At Z' j → 3 ≤ j) → Q (K (.exit 2, ⟨σ', H', 93⟩))) →
    Q ((W Tryz.prog cfg (.loop (loopAt Tryz.f14 17)) ⟨σ, H, 93⟩).bind K)
  | 0, i, σ, H, L, Z, hk, s8, s10, s11, s14, hH, g0, g1, g2, iL, aL, iZ, aZ, dLZ, hK => by
    have hi : i = q := by omega
    subst hi
    have hlt : decide (i < i) = false := df (by omega)
    rw [Wloop]
    conv => arg 1; arg 1; arg 1; simp [loopAt, loopIn, headId, Tryz.f14, s10, s14, g1, hx, hlt, -getElem?_pos]
    exact hK _ _ _ (by simp [s8]) (by simp [s11]) hH g0 g2 iL aL iZ aZ
  | k + 1, i, σ, H, L, Z, hk, s8, s10, s11, s14, hH, g0, g1, g2, iL, aL, iZ, aZ, dLZ, hK => by
    have hlt : decide (i < q) = true := dt (by omega)
    have hw : IntKind.i64.wrap ((i : Int) + 1) = ((i + 1 : Nat) : Int) := wr (by omega) (by omega)
    obtain ⟨Z', H', eA, iA, aA, pA, lA⟩ := iZ.pushD 48 [encSlt s0] (by simp; omega)
    have es := iZ.els
    have nA := iA.one; have cA := iA.cells
    have nL := iL.one; have cL := iL.cells; have nZ := iZ.one; have cZ := iZ.cells
    have r0 : H'[0]? = some ⟨0, 16, [zF], 0⟩ := by rw [pA 0 (by omega) (fun h => by have := aZ 0 h; omega), g0]
    have r1 : H'[1]? = some ⟨0, 4, [encFunc x], 0⟩ := by rw [pA 1 (by omega) (fun h => by have := aZ 1 h; omega), g1]
    have r2 : H'[2]? = some ⟨0, 16, [frC (nfL fn s []) .snil L Z], 0⟩ := by rw [pA 2 (by omega) (fun h => by have := aZ 2 h; omega), g2]
    have l2 : 2 < H'.length := by omega
    have aA' : ∀ j, At Z' j → 3 ≤ j := fun j hj => by
      rcases aA j hj with h | h
      · exact aZ j h
      · omega
    have iB : ∀ o : Ob, IsS (H'.set 2 o) 6 ((List.replicate (i + 1) s0).map encSlt) Z' := fun o => by
      rw [List.replicate_succ', List.map_append]
      exact iA.set (fun h => by have := aA' 2 h; omega) o
    have iL' : ∀ o : Ob, IsS (H'.set 2 o) 2 (ws.map encV) L := fun o =>
      (iL.keep (fun j hj => pA j (iL.lt hj) (dLZ j hj))).set (fun h => by have := aL 2 h; omega) o
    have dd : ∀ j, At L j → ¬ At Z' j := fun j hj h => by
      rcases aA j h with h1 | h1
      · exact dLZ j hj h1
      · have := iL.lt hj; omega
    have eA' : apK 48 6 H Z ((List.replicate i s0).map encSlt) [.agg [I 0, I 0, I 0, I 0, I 0, I 0]] = some (Z', H') := eA
    rw [Wloop]
    conv => arg 1; arg 1; arg 1; simp [loopAt, loopIn, headId, Tryz.f14, s8, s10, s11, s14, g1, g2, hx, hlt, eA', es, nA, cA, nL, cL, nZ, cZ, r0, r1, r2, l2, logL, loud, isE, drawChk, hw, nfL, -getElem?_pos, -List.map_replicate]
    rw [Option.bind_some, loopK_normal]
    exact rnew2 x fn s q hx hq ws K Q k (i + 1) _ _ L Z' (by omega) (by simp [s8]) (by simp [s10]) (by simp [s11]) (by simp) (by simp; omega) (by rw [List.getElem?_set_ne (by omega), r0]) (by rw [List.getElem?_set_ne (by omega), r1]) (List.getElem?_set_self l2) (iL' _) aL (iB _) aA' dd hK
theorem rnew_spec (p : Option (List Fu)) (hb : Bnd (p.getD [])) (hl : (p.getD []).length < 2 ^ 63) (fn : Int) (args : Option (List Vl)) (s : Int) (ha : (args.getD []).length < 2 ^ 62) :
    ∃ d, fnc Tryz.prog cfg R 14 [encProg p, I fn, encL 2 encV args, I s] = some (.tup [d, .bool (newF (p.getD []) fn (args.getD []) s).isSome]) ∧ IsF d ((newF (p.getD []) fn (args.getD []) s).getD fr0) := by
  have hM := rmay7_spec p hb
  have hI := rIs_spec s
  have zz : IsF zF fr0 := ⟨none, none, none, rfl, rfl, rfl, rfl⟩
  have no : newF (p.getD []) fn (args.getD []) s = none → (fnc Tryz.prog cfg R 14 [encProg p, I fn, encL 2 encV args, I s] = some (.tup [zF, .bool false])) → ∃ d, fnc Tryz.prog cfg R 14 [encProg p, I fn, encL 2 encV args, I s] = some (.tup [d, .bool (newF (p.getD []) fn (args.getD []) s).isSome]) ∧ IsF d ((newF (p.getD []) fn (args.getD []) s).getD fr0) := by
    intro h1 h2; rw [h1]; exact ⟨zF, h2, zz⟩
  cases k1 : mayP (p.getD [])
  · refine no (by unfold newF; rw [if_neg (fun h => by rw [k1] at h; cases h.1)]) ?_
    rw [k1] at hM
    rw [fnc_at rfl, body_eq Tryz.func14 rfl rfl]
    simp [argsσ, Vm.results, hM]
  rw [k1] at hM
  cases k2 : decide (fn < 0)
  case true =>
    refine no (by unfold newF; rw [if_neg (fun h => by have := of_decide_eq_true k2; have := h.2.1; omega)]) ?_
    rw [fnc_at rfl, body_eq Tryz.func14 rfl rfl]
    simp [argsσ, Vm.results, hM, k2]
  have m2 := of_decide_eq_false k2
  cases k3 : decide (((p.getD []).length : Int) ≤ fn)
  case true =>
    refine no (by unfold newF; rw [if_neg (fun h => by have := of_decide_eq_true k3; have := h.2.2.1; omega)]) ?_
    rw [fnc_at rfl, body_eq Tryz.func14 rfl rfl]
    simp [argsσ, Vm.results, hM, k2, k3]
  have m3 := of_decide_eq_false k3
  cases hs : isS s
  case false =>
    refine no (by unfold newF; rw [if_neg (fun h => by rw [hs] at h; cases h.2.2.2)]) ?_
    rw [hs] at hI
    rw [fnc_at rfl, body_eq Tryz.func14 rfl rfl]
    simp [argsσ, Vm.results, hM, k2, k3, hI]
  rw [hs] at hI
  obtain ⟨n, rfl⟩ : ∃ n : Nat, fn = n := ⟨fn.toNat, by omega⟩
  have k3' : decide ((p.getD []).length ≤ n) = false := df (by omega)
  have hn : n < (p.getD []).length := by omega
  have hix := idxD_nat .i64 hn
  have hg : (p.getD [])[n]? = some (p.getD [])[n] := List.getElem?_eq_getElem hn
  have hfm := mayP_f k1 (List.getElem_mem hn)
  have hh := fmay_head hfm
  have hnew : newF (p.getD []) n (args.getD []) s = if (p.getD [])[n].arity ≤ (p.getD [])[n].locals ∧ ((args.getD []).length : Int) = (p.getD [])[n].arity ∧ (args.getD []).all Vl.may = true then
        some ⟨n, 0, [], args.getD [] ++ List.replicate ((p.getD [])[n].locals.toNat - (args.getD []).length) v0, List.replicate (p.getD [])[n].slots.toNat s0, s, 0, 0, 0, 0, o0, noK, 0⟩ else none := by
    unfold newF
    rw [if_pos ⟨k1, by omega, by omega, hs⟩, Int.toNat_natCast, hg]
  generalize (p.getD [])[n] = x at *
  cases j1 : decide (x.locals < x.arity)
  case true =>
    refine no (by rw [hnew, if_neg (fun h => by have := of_decide_eq_true j1; omega)]) ?_
    rw [fnc_at rfl, body_eq Tryz.func14 rfl rfl]
    simp [argsσ, Vm.results, hM, k2, k3', hI, hix, hg, j1]
  have n1 := of_decide_eq_false j1
  cases j2 : decide (((args.getD []).length : Int) = x.arity)
  case false =>
    refine no (by rw [hnew, if_neg (fun h => (of_decide_eq_false j2) h.2.1)]) ?_
    rw [fnc_at rfl, body_eq Tryz.func14 rfl rfl]
    simp [argsσ, Vm.results, hM, k2, k3', hI, hix, hg, j1, j2]
  have n2 := of_decide_eq_true j2
  obtain ⟨l, hl'⟩ : ∃ l : Nat, x.locals = l := ⟨x.locals.toNat, by have := hh.2.2.1; omega⟩
  obtain ⟨q, hq'⟩ : ∃ q : Nat, x.slots = q := ⟨x.slots.toNat, by have := hh.2.2.2.2.1; omega⟩
  have hl16 : l ≤ 16 := by have := hh.2.2.2.1; omega
  have hq8 : q ≤ 8 := by have := hh.2.2.2.2.2; omega
  have hal : (args.getD []).length ≤ l := by omega
  have hall := ws_all (args.getD []) l
  obtain ⟨Q, hQ⟩ : ∃ Q : Option D → Prop, Q = fun o => ∃ d, o = some (.tup [d, .bool (newF (p.getD []) n (args.getD []) s).isSome]) ∧ IsF d ((newF (p.getD []) n (args.getD []) s).getD fr0) := ⟨_, rfl⟩
  suffices h : Q (fnc Tryz.prog cfg R 14 [encProg p, I n, encL 2 encV args, I s]) by rw [hQ] at h; exact h
  rw [fnc_at rfl, body_eq Tryz.func14 rfl rfl]
  conv => arg 1; simp [argsσ, hM, k2, k3', hI, hix, hg, j1, j2, Option.bind_assoc]
  refine rnew1 args x n s l hl' hal (by omega) _ Q (wsOf (args.getD []) l) 0 _ _ .snil rfl (by simp [argsσ]) (by simp) (by simp) (by simp) (by simp) (by simp) (by simp) (by simp) (by simp [nfL, o0, v0]) (.inl ⟨rfl, by simp⟩) (fun j h => absurd h (at_snil j)) ?_ rfl ?_
  · intro σ' H' L' hm t8 t10 t11 h3 g0 g1 g2 iL aL
    conv => arg 1; simp [t8, t10, t11, Option.bind_assoc]
    refine rnew2 x n s q hq' (by omega) (wsOf (args.getD []) l) _ Q q 0 _ _ L' .snil (by omega) (by simp [t8]) (by simp [t10]) (by simp [t11]) (by simp) h3 g0 g1 g2 iL aL (.inl ⟨rfl, by simp⟩) (fun j h => absurd h (at_snil j)) (fun j _ h => absurd h (at_snil j)) ?_
    intro σ'' H'' Z' u8 u11 h3' f0 f2 jL bL jZ bZ
    have x1 := fun o : Ob => ((jL.set (fun h => by have := bL 0 h; omega) o).expO (cl_vals _)).1
    have x2 := fun o : Ob => ((jZ.set (fun h => by have := bZ 0 h; omega) o).expO (cl_slts _)).1
    have y1 := (jL.expO (cl_vals _)).2
    have y2 := (jZ.expO (cl_slts _)).2
    have m1 := jL.one; have m3 := jZ.one
    have l0 : 0 < H''.length := by omega
    rw [if_pos ⟨by omega, n2, by rw [← hall]; exact hm⟩] at hnew
    rw [hQ, hnew]
    refine ⟨frC (nfL n s []) .snil (encL 2 encV (oS (wsOf (args.getD []) l) L')) (encL 6 encSlt (oS (List.replicate q s0) Z')), ?_, ?_⟩
    · generalize oS (wsOf (args.getD []) l) L' = oo at *
      generalize oS (List.replicate q s0) Z' = ozz at *
      simp [u8, u11, f0, f2, l0, gs0 l0, x1, x2, m1, m3, Vm.results, nfL, -getElem?_pos]
    · exact ⟨none, _, _, rfl, rfl, by rw [y1]; unfold wsOf; rw [hl']; simp, by rw [y2]; rw [hq']; simp⟩
  · intro σ' H' hm t8 t9 g0
    rw [if_neg (fun h => by rw [hall, h.2.2] at hm; cases hm)] at hnew
    rw [hQ, hnew]
    refine ⟨zF, ?_, zz⟩
    simp [t8, t9, g0, Vm.results, -getElem?_pos]
end Go.Proofs.YtlpadffinfijgaaGreatW.Rg
