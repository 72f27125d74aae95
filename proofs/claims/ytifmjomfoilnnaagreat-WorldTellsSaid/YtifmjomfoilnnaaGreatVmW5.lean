/- The document: who is ready, fresh workers, equal worlds. No conditions. -/
import Derived.Test.YtifmjomfoilnnaaGreatVmW4
import Derived.Test.YtifmjomfoilnnaaGreatVmW3
set_option linter.unusedVariables false
set_option linter.unusedSimpArgs false
set_option maxRecDepth 10000
namespace Go.Proofs.YtifmjomfoilnnaaGreatW.Rg
open Go.Proofs.YtifmjomfoilnnaaGreatW.Vm Go.Proofs.YtifmjomfoilnnaaGreatW.Md
open Go.Proofs.YtifmjomfoilnnaaGreatW.Rn (Ring encRing newRing noRing inb)
open Go Go.Proofs
set_option maxHeartbeats 2000000 in
theorem rready_loop (w : Wd) (hr : w.rl.length ≤ 100) (hc : w.cl.length < 2 ^ 62) {X : Type} (K : Ex × St → Option X) (Q : Option X → Prop) : ∀ (rest : List Ring) (i : Nat) (σ : Nat → D) (H : List Ob) (L : D) (pre : List Rf), w.rl.drop i = rest → pre.length ≤ i * 1025 →
    σ 1 = .ptr 0 0 0 0 → σ 3 = L → σ 4 = I i → 1 ≤ H.length → H[0]? = some ⟨0, 19, [encW w], 0⟩ → IsS H 2 (pre.map encRf) L → (∀ j, At L j → 1 ≤ j) →
    (∀ σ' H' L', σ' 3 = L' → IsS H' 2 ((pre ++ readyOf rest (w.cl.drop i)).map encRf) L' → Q (K (.exit 0, ⟨σ', H', 44⟩))) →
    Q ((W Tryz.prog cfg (.loop (loopAt Tryz.f19 3)) ⟨σ, H, 44⟩).bind K)
  | [], i, σ, H, L, pre, hd, hp, s1, s3, s4, hH, g0, iL, aL, hK => by
    have hrl : (w.rings.getD []).length = w.rl.length := rfl
    have hi : decide (i < w.rl.length) = false := df (by have := congrArg List.length hd; simp at this; omega)
    rw [Wloop]
    conv => arg 1; arg 1; arg 1; simp [loopAt, loopIn, headId, Tryz.f19, s1, s4, g0, hrl, hi, -getElem?_pos]
    exact hK _ H L (by simp [s3]) (by simpa [readyOf] using iL)
  | r :: rest, i, σ, H, L, pre, hd, hp, s1, s3, s4, hH, g0, iL, aL, hK => by
    obtain ⟨hg1, hd1, hi⟩ := drop_get hd
    have hrl : (w.rings.getD []).length = w.rl.length := rfl
    have hlt : decide (i < w.rl.length) = true := dt hi
    have hx : idxD w.rl.length (I i) = some i := idxD_nat .i64 hi
    have hg1' : (w.rings.getD [])[i]? = some r := hg1
    have hw : IntKind.i64.wrap ((i : Int) + 1) = ((i + 1 : Nat) : Int) := wr (by omega) (by omega)
    obtain ⟨oi, e1, r1⟩ := ritems_spec r
    have hil := itemsO_len r
    have nr := rnone_spec
    have exr : ∀ (h : List Ob) (b : Option (List Rf)), exp1 h (encL 2 encRf b) = some (encL 2 encRf b) := fun h z => exp_clean (by simp) (by simp)
    rw [readyOf_drop] at hK
    have hdr := dr19_5
    simp [opsAt, opsIn, Tryz.f19] at hdr
    have w1 := Wdraw0 hdr
    clear hdr
    have hcl : (w.cur.getD []).length = w.cl.length := rfl
    have nL := iL.one; have cL := iL.cells
    have es0 := iL.els
    have no : (w.cl[i]? = none ∨ w.cl[i]? = some noR) → Q ((W Tryz.prog cfg (.loop (loopAt Tryz.f19 3)) ⟨σ, H, 44⟩).bind K) := fun hno => by
      obtain ⟨L', H', eA, iA, aA, pA, lA⟩ := iL.pushD 16 ((oi.getD []).map encRf) (by rw [r1]; simp; omega)
      have nA := iA.one; have cA := iA.cells
      have fin : ∀ σ' : Nat → D, σ' 1 = .ptr 0 0 0 0 → σ' 3 = L' → σ' 4 = I (i + 1 : Nat) → Q ((W Tryz.prog cfg (.loop (loopAt Tryz.f19 3)) ⟨σ', H', 44⟩).bind K) := fun σ' t1 t3 t4 => by
        refine rready_loop w hr hc K Q rest (i + 1) σ' H' L' (pre ++ itemsO r) hd1 (by simp; omega) t1 t3 t4 (by omega) (by rw [pA 0 (by omega) (fun e => by have := aL 0 e; omega), g0]) (by rw [List.map_append, ← r1]; exact iA) (fun j hj => by
          rcases aA j hj with h | h
          · exact aL j h
          · omega) (fun σ'' H'' L'' u3 iu => hK σ'' H'' L'' u3 ?_)
        rcases hno with h | h <;> rw [h] <;> simpa using iu
      have pA0 : H'[0]? = some ⟨0, 19, [encW w], 0⟩ := by rw [pA 0 (by omega) (fun e => by have := aL 0 e; omega), g0]
      rcases hno with h | h
      · have h1 : decide (i < w.cl.length) = false := df (by have := List.getElem?_eq_none_iff.1 h; omega)
        rw [Wloop]
        conv => arg 1; arg 1; arg 1; simp [loopAt, loopIn, headId, Tryz.f19, s1, s3, s4, hrl, hlt, hx, hg1', g0, hcl, h1, e1, es0, eA, nA, cA, nL, cL, hw, exr, w1, -List.map_append, -getElem?_pos]
        rw [Option.bind_some, loopK_normal]
        exact fin _ (by simp [s1]) (by simp) (by simp)
      · have hlc := (List.getElem?_eq_some_iff.1 h).1
        have h1 : decide (i < w.cl.length) = true := dt hlc
        have hxc : idxD w.cl.length (I i) = some i := idxD_nat .i64 hlc
        have hgc : (w.cur.getD [])[i]? = some noR := h
        have nq := fun s t => by have := neq_rf s t noR noR; rw [dt rfl] at this; exact this
        generalize noR = no' at *
        rw [Wloop]
        conv => arg 1; arg 1; arg 1; simp [loopAt, loopIn, headId, Tryz.f19, s1, s3, s4, hrl, hlt, hx, hg1', g0, hcl, h1, hxc, hgc, nr, nq, e1, es0, eA, nA, cA, nL, cL, hw, exr, w1, -List.map_append, -getElem?_pos]
        rw [Option.bind_some, loopK_normal]
        exact fin _ (by simp [s1]) (by simp) (by simp)
    cases hci : w.cl[i]? with
    | none => exact no (.inl hci)
    | some c =>
      by_cases hcn : c = noR
      · subst hcn; exact no (.inr hci)
      rw [hci] at hK
      simp only [if_neg hcn] at hK
      have hlc := (List.getElem?_eq_some_iff.1 hci).1
      have h1 : decide (i < w.cl.length) = true := dt hlc
      have hxc : idxD w.cl.length (I i) = some i := idxD_nat .i64 hlc
      have hgc : (w.cur.getD [])[i]? = some c := hci
      have nq := fun s t => by have := neq_rf s t c noR; rw [df hcn] at this; exact this
      obtain ⟨L1, H1, eB, iB, aB, pB, lB⟩ := iL.pushD 16 [encRf c] (by simp; omega)
      have nB := iB.one; have cB := iB.cells
      have gB0 : H1[0]? = some ⟨0, 19, [encW w], 0⟩ := by rw [pB 0 (by omega) (fun e => by have := aL 0 e; omega), g0]
      have aL1 : ∀ j, At L1 j → 1 ≤ j := fun j hj => by
        rcases aB j hj with h | h
        · exact aL j h
        · omega
      obtain ⟨L', H', eA, iA, aA, pA, lA⟩ := iB.pushD 16 ((oi.getD []).map encRf) (by rw [r1]; simp; omega)
      have es := iB.els
      have nA := iA.one; have cA := iA.cells
      generalize noR = no' at *
      rw [Wloop]
      conv => arg 1; arg 1; arg 1; simp [loopAt, loopIn, headId, Tryz.f19, s1, s3, s4, hrl, hlt, hx, hg1', g0, hcl, h1, hxc, hgc, nr, nq, e1, es0, eB, nB, cB, gB0, es, eA, nA, cA, nL, cL, hw, exr, w1, -List.map_append, -getElem?_pos]
      rw [Option.bind_some, loopK_normal]
      refine rready_loop w hr hc K Q rest (i + 1) _ H' L' (pre ++ [c] ++ itemsO r) hd1 (by simp; omega) (by simp [s1]) (by simp) (by simp) (by omega) (by rw [pA 0 (by omega) (fun e => by have := aL1 0 e; omega), gB0]) (by rw [List.map_append, List.map_append, ← r1]; exact iA) (fun j hj => by
        rcases aA j hj with h | h
        · exact aL1 j h
        · omega) (fun σ'' H'' L'' u3 iu => hK σ'' H'' L'' u3 (by simpa using iu))
theorem rready_spec (w : Wd) (hr : w.rl.length ≤ 100) (hc : w.cl.length < 2 ^ 62) : ∃ o : Option (List Rf), fnc Tryz.prog cfg R 19 [encW w] = some (encL 2 encRf o) ∧ o.getD [] = readyOf w.rl w.cl := by
  obtain ⟨Q, hQ⟩ : ∃ Q : Option D → Prop, Q = fun v => ∃ o : Option (List Rf), v = some (encL 2 encRf o) ∧ o.getD [] = readyOf w.rl w.cl := ⟨_, rfl⟩
  suffices h : Q (fnc Tryz.prog cfg R 19 [encW w]) by rw [hQ] at h; exact h
  rw [fnc_at rfl, body_eq Tryz.func19 rfl rfl]
  simp [argsσ, Option.bind_assoc]
  refine rready_loop w hr hc _ Q w.rl 0 _ _ (.sl 2 [] true) [] rfl (by simp) (by simp) (by simp) (by simp) (by simp) rfl (.inr (.inl ⟨rfl, rfl⟩)) (fun j hj => by cases hj) ?_
  intro σ' H' L' t3 iL
  rw [List.nil_append, List.drop_zero] at iL
  obtain ⟨x1, y1⟩ := iL.expO (cl_rfs _)
  have nL := iL.one
  rw [hQ]
  refine ⟨oS (readyOf w.rl w.cl) L', ?_, y1⟩
  simp [t3, x1, nL, Vm.results]
theorem rfresh_loop (n : Nat) (hn : n ≤ 64) (fu fm m : Int) (r : Ring) (hr : fnc Tryz.prog cfg R 41 [I 1, I m] = some (.tup [encRing r, .bool true])) (k0 : Nat) {X : Type} (K : Ex × St → Option X) (Q : Option X → Prop) : ∀ (k i : Nat) (σ : Nat → D) (H : List Ob) (A B : D), i + k = n →
    σ 0 = I n → σ 3 = .ptr k0 0 0 0 → σ 6 = A → σ 7 = B → σ 8 = I i → H[k0]? = some ⟨0, 3, [.agg [I fu, I fm, I m]], 0⟩ → Fw H i r A B (k0 + 1) →
    (∀ σ' H' A' B', σ' 6 = A' → σ' 7 = B' → Fw H' n r A' B' (k0 + 1) → (∀ j, j ≤ k0 → H'[j]? = H[j]?) → H.length ≤ H'.length → Q (K (.exit 0, ⟨σ', H', 40⟩))) →
    Q ((W Tryz.prog cfg (.loop (loopAt Tryz.f14 4)) ⟨σ, H, 40⟩).bind K) := by
  intro k
  induction k with
  | zero =>
    intro i σ H A B hi s0 s3 s6 s7 s8 g0 F hK
    have h0 : decide (i < n) = false := df (by omega)
    have e : i = n := by omega
    subst e
    rw [Wloop]
    conv => arg 1; arg 1; arg 1; simp [loopAt, loopIn, headId, Tryz.f14, s0, s8, h0]
    exact hK _ H A B (by simp [s6]) (by simp [s7]) F (fun j _ => rfl) (Nat.le_refl _)
  | succ k ih =>
    intro i σ H A B hi s0 s3 s6 s7 s8 g0 F hK
    have hlt : decide (i < n) = true := dt (by omega)
    have h64 : decide ((n : Int) ≤ 64) = true := dt (by omega)
    have hw : IntKind.i64.wrap ((i : Int) + 1) = ((i + 1 : Nat) : Int) := wr (by omega) (by omega)
    have hk0 := (List.getElem?_eq_some_iff.1 g0).1
    obtain ⟨A', H3, B', H4, a1, a2, es1, es2, F', kp, hl4⟩ := F.more (by omega) (by omega) ⟨0, 4, [encRing r], 0⟩ ⟨0, 4, [encRing r], 0⟩
    have ql : ∀ o : Ob, (H ++ [o])[H.length]? = some o := fun o => by simp
    have qs := sgx H
    have qn : ∀ o o' : Ob, (H ++ [o, o'])[H.length + 1]? = some o' := fun o o' => by simp
    have en : ∀ o : Ob, elsZ (H ++ [o, ⟨0, 4, [encRing r], 0⟩]) 4 (.own 4 (H.length + 1) 0 0 1) = some [encRing r] := fun o => by simp [elsZ, elsOf]
    have n1 := F'.a.one; have c1 := F'.a.cells; have n2 := F'.b.one; have c2 := F'.b.cells
    have n3 := F.a.one; have c3 := F.a.cells; have n4 := F.b.one; have c4 := F.b.cells
    have nr := rnone_spec
    rw [Wloop]
    conv => arg 1; arg 1; arg 1; simp [loopAt, loopIn, headId, Tryz.f14, bs_ring, List.replicate, s0, s3, s6, s7, s8, hlt, h64, g0, hr, nr, a1, a2, es1, es2, en, ql, qs, qn, n1, c1, n2, c2, n3, c3, n4, c4, hw, -List.map_append, -List.map_replicate, -getElem?_pos]
    rw [Option.bind_some, loopK_normal]
    exact ih (i + 1) _ H4 A' B' (by omega) (by simp [s0]) (by simp [s3]) (by simp) (by simp) (by simp) (by rw [kp k0 (by omega), g0]) F' (fun σ' H' A'' B'' t6 t7 F'' kq hl => hK σ' H' A'' B'' t6 t7 F'' (fun j hj => by rw [kq j hj, kp j (by omega)]) (by omega))
theorem rfresh_ok (n : Nat) (h1 : 1 ≤ n) (hn : n ≤ 64) (fu fm m : Int) (hm : inb m 1 1024 = true) (H : List Ob) :
    ∃ A B H', body Tryz.prog R 14 [I n, .agg [I fu, I fm, I m]] H = some (.tup [A, B], H') ∧ Fw H' n (newRing 1 m) A B (H.length + 1) ∧ (∀ j, j < H.length → H'[j]? = H[j]?) ∧ H.length ≤ H'.length := by
  have hb : 1 ≤ m ∧ m ≤ 1024 := by simp [inb] at hm; omega
  have hr := Rn.rnew_ok 1 m hm (by simp [inb]; omega)
  generalize newRing 1 m = r at *
  obtain ⟨Q, hQ⟩ : ∃ Q : Option (D × List Ob) → Prop, Q = fun o => ∃ A B H', o = some (.tup [A, B], H') ∧ Fw H' n r A B (H.length + 1) ∧ (∀ j, j < H.length → H'[j]? = H[j]?) ∧ H.length ≤ H'.length := ⟨_, rfl⟩
  suffices h : Q (body Tryz.prog R 14 [I n, .agg [I fu, I fm, I m]] H) by rw [hQ] at h; exact h
  rw [body_eq Tryz.func14 rfl rfl]
  simp [argsσ, Option.bind_assoc]
  refine rfresh_loop n hn fu fm m r hr H.length _ Q n 0 _ _ (.sl 4 [] true) (.sl 2 [] true) (by omega) (by simp [argsσ]) (by simp) (by simp) (by simp) (by simp) (by simp) ⟨.inr (.inl ⟨rfl, rfl⟩), .inr (.inl ⟨rfl, rfl⟩), (fun j hj => by rcases hj with h | h <;> cases h), (fun j hj => by cases hj)⟩ ?_
  intro σ' H' A' B' t6 t7 F kp hl
  have n1 := F.a.one; have n2 := F.b.one
  simp only [List.length_append, List.length_cons, List.length_nil] at hl
  rw [hQ]
  refine ⟨A', B', H', by simp [Vm.results, t6, t7, n1, n2], F, fun j hj => by rw [kp j (by omega), List.getElem?_append_left hj], by omega⟩
theorem rfresh_no (n fu fm m : Int) (h : ¬ (1 ≤ n ∧ n ≤ 64) ∨ inb m 1 1024 = false) (H : List Ob) :
    ∃ A B H', body Tryz.prog R 14 [I n, .agg [I fu, I fm, I m]] H = some (.tup [A, B], H') ∧ IsS H' 4 [] A ∧ IsS H' 2 [] B ∧ (∀ j, j < H.length → H'[j]? = H[j]?) ∧ H.length ≤ H'.length ∧ (∀ j, ¬ At A j) ∧ (∀ j, ¬ At B j) := by
  by_cases hn : 1 ≤ n ∧ n ≤ 64
  · have hm : inb m 1 1024 = false := by
      rcases h with h | h
      · exact absurd hn h
      · exact h
    have hr := Rn.rnew_no 1 m (by rw [hm]; rfl)
    obtain ⟨k, rfl⟩ : ∃ k : Nat, n = k := ⟨n.toNat, by omega⟩
    have h0 : decide (0 < k) = true := dt (by omega)
    have h0' : decide ((0 : Int) < (k : Int)) = true := dt (by omega)
    have h64 : decide ((k : Int) ≤ 64) = true := dt hn.2
    generalize noRing = r at *
    refine ⟨.snil, .snil, H ++ [⟨0, 3, [.agg [I fu, I fm, I m]], 0⟩, ⟨0, 4, [encRing r], 0⟩], ?_, .inl ⟨rfl, rfl⟩, .inl ⟨rfl, rfl⟩, fun j hj => List.getElem?_append_left hj, by simp, (fun j hj => by cases hj), (fun j hj => by cases hj)⟩
    rw [body_eq Tryz.func14 rfl rfl]
    simp [argsσ, Option.bind_assoc]
    rw [Wloop]
    simp [loopAt, loopIn, headId, Tryz.f14, argsσ, h0, h0', h64, hr, Vm.results, -getElem?_pos, -Int.natCast_pos]
  · refine ⟨.sl 4 [] true, .sl 2 [] true, H ++ [⟨0, 3, [.agg [I fu, I fm, I m]], 0⟩], ?_, .inr (.inl ⟨rfl, rfl⟩), .inr (.inl ⟨rfl, rfl⟩), fun j hj => List.getElem?_append_left hj, by simp, (fun j hj => by cases hj), (fun j hj => by cases hj)⟩
    rw [body_eq Tryz.func14 rfl rfl]
    simp [argsσ, Option.bind_assoc]
    rw [Wloop]
    cases c1 : decide (0 < n)
    · simp [loopAt, loopIn, headId, Tryz.f14, argsσ, c1, Vm.results, -getElem?_pos]
    · have c2 : decide (n ≤ 64) = false := df (fun e => hn ⟨by have := of_decide_eq_true c1; omega, e⟩)
      simp [loopAt, loopIn, headId, Tryz.f14, argsσ, c1, c2, Vm.results, -getElem?_pos]
end Go.Proofs.YtifmjomfoilnnaaGreatW.Rg
