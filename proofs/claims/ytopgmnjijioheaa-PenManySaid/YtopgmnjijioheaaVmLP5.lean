/- PenGens. No conditions. -/
import Derived.Test.YtopgmnjijioheaaVmLP2
import Derived.Test.YtopgmnjijioheaaVmPM5
set_option linter.unusedVariables false
set_option linter.unusedSimpArgs false
namespace Go.Proofs.YtopgmnjijioheaaW.Rg
open Go.Proofs.YtopgmnjijioheaaW.Vm Go.Proofs.YtopgmnjijioheaaW.Md
open Go Go.Proofs
theorem gens_in {cA fA} {A : Pn} (h : Rp cA fA A) (b : Bp A) (l : List Rf) (L : D) (hl : l.length ≤ 2 ^ 20) (hq : ∀ q ∈ l, getPn A q = none) (H0 : List Ob) (iL : IsS H0 2 (l.map encRf) L) (ka : Nat) (hka : H0[ka]? = some ⟨0, 3, [encP cA fA A], 0⟩) {X : Type} (K : Ex × St → Option X) (Q : Option X → Prop) : ∀ (rest : List Rf) (j : Nat) (σ : Nat → D) (H : List Ob), l.drop j = rest →
    σ 7 = L → σ 9 = .ptr ka 0 0 0 → σ 14 = I j → H0.length ≤ H.length → (∀ k, k < H0.length → H[k]? = H0[k]?) →
    (∀ σ' H', σ' 1 = σ 1 → σ' 2 = σ 2 → σ' 5 = σ 5 → σ' 7 = L → σ' 8 = σ 8 → σ' 9 = .ptr ka 0 0 0 → σ' 10 = σ 10 → H0.length ≤ H'.length → (∀ k, k < H0.length → H'[k]? = H0[k]?) → Q (K (.exit 2, ⟨σ', H', 122⟩))) →
    Q ((W Try.prog cfg (.loop (loopAt Try.f7 13)) ⟨σ, H, 122⟩).bind K)
  | [], j, σ, H, hd, s7, s9, s14, hH, gk, hK => by
    have hi : decide (j < l.length) = false := df (by have := congrArg List.length hd; simp at this; omega)
    have hlen : lenS L = some l.length := by rw [iL.len]; simp
    rw [Wloop]
    conv => arg 1; arg 1; arg 1; simp [loopAt, loopIn, headId, Try.f7, s7, s9, s14, hlen, hi]
    exact hK _ H (by simp) (by simp) (by simp) (by simp [s7]) (by simp) (by simp [s9]) (by simp) hH gk
  | q :: rest, j, σ, H, hd, s7, s9, s14, hH, gk, hK => by
    obtain ⟨hg1, hd1, hi⟩ := drop_get hd
    have hlt : decide (j < l.length) = true := dt hi
    have hlen : lenS L = some l.length := by rw [iL.len]; simp
    have iH : IsS H 2 (l.map encRf) L := iL.keep fun i hi => gk i (iL.lt hi)
    obtain ⟨id, ver, rest', hLe, hh, hel, hix⟩ := iH.ix (t := 52) un52 sz27 (i := j) hi
    have hel2 : (l.map encRf ++ rest')[j]? = some (encRf q) := by rw [hel, show l[j] = q from by have := List.getElem?_eq_getElem hi; rw [hg1] at this; exact (Option.some.inj this).symm]
    have hw : IntKind.i64.wrap ((j : Int) + 1) = ((j + 1 : Nat) : Int) := wr (by omega) (by omega)
    have x1 := getN h b (hq q (List.mem_of_getElem? hg1))
    have ga : H[ka]? = some ⟨0, 3, [encP cA fA A], 0⟩ := by rw [gk ka (List.getElem?_eq_some_iff.1 hka).1, hka]
    have ql : ∀ o : Ob, (H ++ [o])[H.length]? = some o := fun o => by simp
    have qs := sgx H
    have exc : ∀ (h : List Ob) (b : Option (List Ce)), exp1 h (encL 18 encC b) = some (encL 18 encC b) := fun h z => exp_clean (by simp) (by simp)
    have exi : ∀ (h : List Ob) (b : Option (List Int)), exp1 h (encL 1 I b) = some (encL 1 I b) := fun h z => exp_clean (by simp) (by simp)
    have hdr := dr7_15
    simp [opsAt, opsIn, Try.f7] at hdr
    have w1 := Wdraw0 hdr
    clear hdr
    rw [Wloop]
    conv => arg 1; arg 1; arg 1; simp [loopAt, loopIn, headId, Try.f7, s7, s9, s14, hlen, hlt, hix, hh, hel2, x1, ga, ql, qs, hw, exc, exi, w1, -getElem?_pos]
    rw [Option.bind_some, loopK_normal]
    exact gens_in h b l L hl hq H0 iL ka hka K Q rest (j + 1) _ _ hd1 (by simp [s7]) (by simp [s9]) (by simp) (by simp; omega) (fun k hk => by rw [List.getElem?_append_left (by omega)]; exact gk k hk) (fun σ' H' t1 t2 t5 t7 t8 t9 t10 => hK σ' H' (by rw [t1]; simp) (by rw [t2]; simp) (by rw [t5]; simp) t7 (by rw [t8]; simp) t9 (by rw [t10]; simp))
theorem bp_aG {i : Nat} {x : Fx} (okx : okX x) : Bp (aG i x) := ⟨by simp [aG], by simp [aG], fun c hc => by rw [List.mem_singleton.1 hc]; exact okx⟩
theorem bp_pG (i : Nat) : Bp (pG i) := by
  unfold pG
  split
  · exact ⟨by simp, by simp, by simp⟩
  · exact ⟨by simp, by simp, fun c hc => by rw [List.mem_singleton.1 hc]; exact okX0⟩
theorem cells_pG (i : Nat) : (pG (i + 1)).cells.length = 1 := by unfold pG; rw [if_neg (by omega)]; rfl
set_option maxHeartbeats 4000000 in
theorem gens_loop (x : Fx) (okx : okX x) (n : Nat) (hn : n ≤ 40) {X : Type} (K : Ex × St → Option X) (Q : Option X → Prop) : ∀ (m i : Nat) (σ : Nat → D) (H : List Ob) (L : D) (c : Option (List Ce)) (f : Option (List Int)), i + m = n →
    σ 1 = I n → σ 2 = .ptr 0 0 0 0 → σ 5 = .ptr 1 0 0 0 → σ 7 = L → σ 8 = I i → H[0]? = some ⟨0, 16, [encX x], 0⟩ → H[1]? = some ⟨0, 3, [encP c f (pG i)], 0⟩ → Rp c f (pG i) → IsS H 2 ((refsG i).map encRf) L → (∀ j, At L j → 2 ≤ j) →
    (∀ σ' H', Q (K (.exit 0, ⟨σ', H', 122⟩))) →
    Q ((W Try.prog cfg (.loop (loopAt Try.f7 6)) ⟨σ, H, 122⟩).bind K) := by
  intro m
  induction m with
  | zero =>
    intro i σ H L c f hi s1 s2 s5 s7 s8 g0 g1 rp iL aL hK
    have h0 : decide (i < n) = false := df (by omega)
    rw [Wloop]
    conv => arg 1; arg 1; arg 1; simp [loopAt, loopIn, headId, Try.f7, s1, s8, h0]
    exact hK _ _
  | succ m ih =>
    intro i σ H L c f hi s1 s2 s5 s7 s8 g0 g1 rp iL aL hK
    have hi40 : i ≤ 40 := by omega
    have hlt : decide (i < n) = true := dt (by omega)
    have hw : IntKind.i64.wrap ((i : Int) + 1) = ((i + 1 : Nat) : Int) := wr (by omega) (by omega)
    obtain ⟨cA, fA, e1, RA⟩ := lay_P rp (bp_pG i) x
    rw [lay_G hi40 x] at e1 RA
    simp only at e1 RA
    have bA := bp_aG (i := i) okx
    have e2 := getP RA bA (get_G hi40 x)
    have e3 := xsame_P (y := x) okx
    rw [decide_eq_true (Eq.refl _)] at e3
    obtain ⟨cD, fD, e4, RD⟩ := drop_P RA bA ⟨0, i⟩
    rw [drop_G hi40 x] at e4 RD
    simp only at e4 RD
    obtain ⟨o, e5, r5⟩ := refs_P RD (bp_pG (i + 1))
    rw [refs_G] at r5
    have r5' : (o.getD []).length = 0 := by rw [r5]; rfl
    have r6' : (cD.getD []).length = 1 := by rw [RD.1, cells_pG]
    have hH : 2 ≤ H.length := by have := (List.getElem?_eq_some_iff.1 g1).1; omega
    have exc : ∀ (h : List Ob) (b : Option (List Ce)), exp1 h (encL 18 encC b) = some (encL 18 encC b) := fun h z => exp_clean (by simp) (by simp)
    have exi : ∀ (h : List Ob) (b : Option (List Int)), exp1 h (encL 1 I b) = some (encL 1 I b) := fun h z => exp_clean (by simp) (by simp)
    have exv : ∀ (h : List Ob) (b : Option (List Vl)), exp1 h (encL 2 encV b) = some (encL 2 encV b) := fun h z => exp_clean (by simp) (by simp)
    have exz : ∀ (h : List Ob) (b : Option (List Slt)), exp1 h (encL 6 encSlt b) = some (encL 6 encSlt b) := fun h z => exp_clean (by simp) (by simp)
    have exr : ∀ (h : List Ob) (b : Option (List Rf)), exp1 h (encL 2 encRf b) = some (encL 2 encRf b) := fun h z => exp_clean (by simp) (by simp)
    have hd := dr7_15
    have q0 : ∀ t : List Ob, (H ++ t)[0]? = some ⟨0, 16, [encX x], 0⟩ := fun t => by rw [List.getElem?_append_left (by omega), g0]
    have n0 := fun s t => bin_neq (P := Try.prog) 3 s t .i64 i i
    rw [Wloop]
    conv => arg 1; arg 1; arg 1; simp [loopAt, loopIn, headId, Try.f7, s1, s2, s5, s7, s8, hlt, g0, g1, q0, e1, e2, e3, exc, exi, exv, exz, Option.bind_assoc, -getElem?_pos]
    simp only [Option.bind_assoc]
    refine gens_in RA bA (refsG i) L (by rw [refsG_len]; omega) (fun q hq => by obtain ⟨k, hk, rfl⟩ := refsG_mem hq; exact get_Gn x (by omega)) (H ++ [⟨0, 3, [encP cA fA (aG i x)], 0⟩, ⟨0, 2, [encRf ⟨0, i⟩], 0⟩, ⟨0, 16, [encX x], 0⟩]) (iL.app _) H.length (by simp) _ Q (refsG i) 0 _ _ rfl (by simp [s7]) (by simp) (by simp) (by simp) (fun k hk => rfl) ?_
    intro σ' H' t1 t2 t5 t7 t8 t9 t10 hl' gk
    simp [s1, s2, s5, s8] at t1 t2 t5 t8 t10
    simp only [List.length_append, List.length_cons, List.length_nil] at hl' gk
    have iH : IsS H' 2 ((refsG i).map encRf) L := iL.keep fun j hj => by rw [gk j (by have := iL.lt hj; omega), List.getElem?_append_left (iL.lt hj)]
    obtain ⟨L', H2, aE, iA, aA, pA, lA⟩ := iH.pushD 16 [encRf ⟨0, i⟩] (by rw [List.length_map, refsG_len]; simp; omega)
    have es := iH.els
    have k2 : ∀ j, j < H'.length → (j < 2 ∨ H.length ≤ j) → H2[j]? = H'[j]? := fun j hj hc => pA j hj (fun e => by have := aL j e; have := iL.lt e; omega)
    have p0 : H2[0]? = some ⟨0, 16, [encX x], 0⟩ := by rw [k2 0 (by omega) (by omega), gk 0 (by omega), q0]
    have p1 : H2[1]? = some ⟨0, 3, [encP c f (pG i)], 0⟩ := by rw [k2 1 (by omega) (by omega), gk 1 (by omega), List.getElem?_append_left (by omega), g1]
    have pa : H2[H.length]? = some ⟨0, 3, [encP cA fA (aG i x)], 0⟩ := by rw [k2 _ (by omega) (by omega), gk _ (by omega)]; simp
    have pb : H2[H.length + 1]? = some ⟨0, 2, [encRf ⟨0, i⟩], 0⟩ := by rw [k2 _ (by omega) (by omega), gk _ (by omega)]; simp
    have pb' : H'[H.length + 1]? = some ⟨0, 2, [encRf ⟨0, i⟩], 0⟩ := by rw [gk _ (by omega)]; simp
    have nA := iA.one; have cA' := iA.cells; have nL := iH.one; have cL := iH.cells
    have ql : ∀ o : Ob, (H2 ++ [o])[H2.length]? = some o := fun o => by simp
    have qs := sgx H2
    have qp : ∀ o : Ob, (H2 ++ [o])[1]? = some ⟨0, 3, [encP c f (pG i)], 0⟩ := fun o => by rw [List.getElem?_append_left (by omega), p1]
    have qt : ∀ o o' : Ob, (H2 ++ [o]).set 1 o' = H2.set 1 o' ++ [o] := fun o o' => set_lt (by omega) o'
    have m1 : (pG (i + 1)).most = 1 := by unfold pG; rw [if_neg (by omega)]
    simp [t1, t2, t5, t7, t8, t9, t10, pb', es, aE, nA, cA', nL, cL, pa, pb, e4, e5, r5', r6', ql, qs, qp, qt, hw, exc, exi, exr, -List.map_append, -getElem?_pos]
    have hL' : ∀ j, At L' j → 2 ≤ j := fun j hj => by
      rcases aA j hj with h1 | h1
      · exact aL j h1
      · omega
    exact ih (i + 1) _ _ L' cD fD (by omega) (by simp [t1]) (by simp [t2]) (by simp [t5]) (by simp) (by simp) (by rw [List.getElem?_append_left (by simp; omega), List.getElem?_set_ne (by omega), p0]) (by rw [List.getElem?_append_left (by simp; omega), List.getElem?_set_self (by omega)]) RD (by rw [refsG_succ, List.map_append]; exact (iA.set (fun e => by have := hL' 1 e; omega) _).app _) hL' hK
theorem gens12_law (x : Fx) (okx : okX x) (n : Int) : fnc Try.prog cfg R 7 [encX x, I n] = some (.bool true) := by
  have exv : ∀ (h : List Ob) (b : Option (List Vl)), exp1 h (encL 2 encV b) = some (encL 2 encV b) := fun h z => exp_clean (by simp) (by simp)
  have exz : ∀ (h : List Ob) (b : Option (List Slt)), exp1 h (encL 6 encSlt b) = some (encL 6 encSlt b) := fun h z => exp_clean (by simp) (by simp)
  have hF := xsmall_spec x
  rw [fnc_at rfl, body_eq Try.func7 rfl rfl]
  cases k2 : smallF x.f
  · rw [k2] at hF
    simp [argsσ, Vm.results, hF, fixed12, exv, exz]
  rw [k2] at hF
  cases k0 : decide (n < 0)
  case true => simp [argsσ, Vm.results, hF, k0, fixed12, exv, exz]
  cases k1 : decide (40 < n)
  case true => simp [argsσ, Vm.results, hF, k0, k1, fixed12, exv, exz]
  obtain ⟨m, rfl⟩ : ∃ m : Nat, n = m := ⟨n.toNat, by have := of_decide_eq_false k0; omega⟩
  have hm : m ≤ 40 := by have := of_decide_eq_false k1; omega
  have e1 := pnew_spec 1
  have e1' : fnc Try.prog cfg R 20 [I 1] = some (.tup [encP none none (pG 0), .bool true]) := e1
  obtain ⟨Q, hQ⟩ : ∃ Q : Option D → Prop, Q = fun o => o = some (.bool true) := ⟨_, rfl⟩
  rw [show ∀ v : Option D, (v = some (.bool true)) = Q v from fun v => by rw [hQ]]
  simp [argsσ, hF, k0, k1, e1', fixed12, exv, exz, Option.bind_assoc]
  refine gens_loop x okx m hm _ Q m 0 _ _ (.sl 2 [] true) none none (by omega) (by simp [argsσ]) (by simp) (by simp) (by simp) (by simp) rfl rfl ⟨rfl, rfl⟩ (.inr (.inl ⟨rfl, rfl⟩)) (fun j hj => by cases hj) ?_
  intro σ' H'
  rw [hQ]
  simp [Vm.results]
end Go.Proofs.YtopgmnjijioheaaW.Rg
