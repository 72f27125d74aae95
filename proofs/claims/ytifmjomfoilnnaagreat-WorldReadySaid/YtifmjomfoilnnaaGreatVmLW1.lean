/- WorldFresh. No conditions. -/
import Derived.Test.YtifmjomfoilnnaaGreatVmW1
import Derived.Test.YtifmjomfoilnnaaGreatVmFx13
set_option linter.unusedVariables false
set_option linter.unusedSimpArgs false
namespace Go.Proofs.YtifmjomfoilnnaaGreatW.Rg
open Go.Proofs.YtifmjomfoilnnaaGreatW.Vm Go.Proofs.YtifmjomfoilnnaaGreatW.Md
open Go.Proofs.YtifmjomfoilnnaaGreatW.Rn (Ring encRing newRing noRing inb)
open Go Go.Proofs
theorem ringsame_self (r : Ring) (hl : r.l.length < 2 ^ 62) : fnc Tryz.prog cfg R 16 [encRing r, encRing r] = some (.bool true) := by
  have h := refs_spec r.buf r.buf hl
  rw [dt rfl] at h
  have exr : ∀ (h : List Ob) (b : Option (List Rf)), exp1 h (encL 2 encRf b) = some (encL 2 encRf b) := fun h z => exp_clean (by simp) (by simp)
  rw [fnc_at rfl, body_eq Tryz.func16 rfl rfl]
  simp [argsσ, Vm.results, h, exr]
theorem neq_self (s t : Operand) (x : Rf) : binD Tryz.prog .neq 36 s t (encRf x) (encRf x) = some (.bool false) := by
  have := neq_rf s t x x
  rw [dt rfl] at this; exact this
theorem rep_el {α : Type} {e : α → D} {n i : Nat} {x : α} (h : i < n) (rest : List D) : ((List.replicate n x).map e ++ rest)[i]? = some (e x) := by
  rw [List.getElem?_append_left (by simpa using h), List.getElem?_map, List.getElem?_replicate, if_pos h]; rfl
theorem freshlaw_loop (n : Nat) (hn : n ≤ 64) (fu fm m : Int) (r : Ring) (hm : fnc Tryz.prog cfg R 24 [encRing r] = some (.bool true)) (h0 : r.many = 0) (hmo : r.most = m) (hl : r.l.length < 2 ^ 62) (A B C E : D) (H : List Ob) (ka kc : Nat) (F1 : Fw H n r A B ka) (F2 : Fw H 64 r C E kc) (g0 : H[0]? = some ⟨0, 3, [.agg [I fu, I fm, I m]], 0⟩) {X : Type} (K : Ex × St → Option X) (Q : Option X → Prop) : ∀ (k i : Nat) (σ : Nat → D), i + k = n →
    σ 0 = I n → σ 3 = .ptr 0 0 0 0 → σ 5 = A → σ 6 = B → σ 8 = C → σ 9 = E → σ 10 = I i →
    (∀ σ', Q (K (.exit 0, ⟨σ', H, 130⟩))) →
    Q ((W Tryz.prog cfg (.loop (loopAt Tryz.f7 11)) ⟨σ, H, 130⟩).bind K) := by
  intro k
  induction k with
  | zero =>
    intro i σ hi s0 s3 s5 s6 s8 s9 s10 hK
    have h0 : decide (i < n) = false := df (by omega)
    rw [Wloop]
    conv => arg 1; arg 1; arg 1; simp [loopAt, loopIn, headId, Tryz.f7, s0, s10, h0]
    exact hK _
  | succ k ih =>
    intro i σ hi s0 s3 s5 s6 s8 s9 s10 hK
    have hlt : decide (i < n) = true := dt (by omega)
    have hw : IntKind.i64.wrap ((i : Int) + 1) = ((i + 1 : Nat) : Int) := wr (by omega) (by omega)
    obtain ⟨ia, va, ra, hA, ha, _, xa⟩ := F1.a.ix (t := 33) un33 sz54 (i := i) (by simp; omega)
    obtain ⟨ib, vb, rb, hB, hb, _, xb⟩ := F1.b.ix (t := 34) un34 sz36 (i := i) (by simp; omega)
    obtain ⟨ic, vc, rc, hC, hc, _, xc⟩ := F2.a.ix (t := 33) un33 sz54 (i := i) (by simp; omega)
    obtain ⟨ie, ve, re, hE, he, _, xe⟩ := F2.b.ix (t := 34) un34 sz36 (i := i) (by simp; omega)
    have la := rep_el (e := encRing) (x := r) (n := n) (i := i) (by omega) ra
    have lb := rep_el (e := encRf) (x := noR) (n := n) (i := i) (by omega) rb
    have lc := rep_el (e := encRing) (x := r) (n := 64) (i := i) (by omega) rc
    have le := rep_el (e := encRf) (x := noR) (n := 64) (i := i) (by omega) re
    have hs := ringsame_self r hl
    have hn := fun s t => neq_self s t noR
    have hrn := rnone_spec
    have d0 : decide (r.many = 0) = true := dt h0
    have d1 : decide (r.most = m) = true := dt hmo
    have exr : ∀ (h : List Ob) (b : Option (List Rf)), exp1 h (encL 2 encRf b) = some (encL 2 encRf b) := fun h z => exp_clean (by simp) (by simp)
    generalize (List.replicate n r).map encRing ++ ra = LA at *
    generalize (List.replicate n noR).map encRf ++ rb = LB at *
    generalize (List.replicate 64 r).map encRing ++ rc = LC at *
    generalize (List.replicate 64 noR).map encRf ++ re = LE at *
    generalize noR = no at *
    have hd := dr7_13
    simp [opsAt, opsIn, Tryz.f7] at hd
    have w1 := Wdraw0 hd
    clear hd
    rw [Wloop]
    conv => arg 1; arg 1; arg 1; simp [loopAt, loopIn, headId, Tryz.f7, s0, s3, s5, s6, s8, s9, s10, hlt, xa, xb, xc, xe, ha, hb, hc, he, la, lb, lc, le, hm, hs, hn, hrn, d0, d1, g0, hw, exr, w1, -getElem?_pos]
    rw [Option.bind_some, loopK_normal]
    exact ih (i + 1) _ (by omega) (by simp [s0]) (by simp [s3]) (by simp [s5]) (by simp [s6]) (by simp [s8]) (by simp [s9]) (by simp) hK
set_option maxHeartbeats 4000000 in
theorem fresh13_law (n fu fm m : Int) : fnc Tryz.prog cfg R 7 [I n, .agg [I fu, I fm, I m]] = some (.bool true) := by
  obtain ⟨Q, hQ⟩ : ∃ Q : Option D → Prop, Q = fun o => o = some (.bool true) := ⟨_, rfl⟩
  by_cases h : (1 ≤ n ∧ n ≤ 64) ∧ inb m 1 1024 = true
  · obtain ⟨⟨h1, h2⟩, hm⟩ := h
    have hb : 1 ≤ m ∧ m ≤ 1024 := by simp [inb] at hm; omega
    obtain ⟨k, rfl⟩ : ∃ k : Nat, n = k := ⟨n.toNat, by omega⟩
    obtain ⟨A, B, H1, e1, F1, p1, l1⟩ := fresh_ok k (by omega) (by omega) fu fm m hm [⟨0, 3, [.agg [I fu, I fm, I m]], 0⟩]
    obtain ⟨C, E, H2, e2, F2, p2, l2⟩ := fresh_ok 64 (by omega) (by omega) fu fm m hm H1
    have e2' : body Tryz.prog R 13 [I 64, .agg [I fu, I fm, I m]] H1 = some (.tup [C, E], H2) := e2
    simp only [List.length_cons, List.length_nil] at p1 l1
    have g1 : H1[0]? = some ⟨0, 3, [.agg [I fu, I fm, I m]], 0⟩ := p1 0 (by omega)
    have g2 : H2[0]? = some ⟨0, 3, [.agg [I fu, I fm, I m]], 0⟩ := by rw [p2 0 (by omega), g1]
    have F1' := F1.keep (H' := H2) p2
    have hmay : fnc Tryz.prog cfg R 24 [encRing (newRing 1 m)] = some (.bool true) := by
      rw [Rn.rmay_spec]
      have : Rn.may (newRing 1 m) = true := by
        unfold Rn.may newRing Rn.Ring.l
        simp [inb]; omega
      rw [this]
    have hll : (newRing 1 m).l.length < 2 ^ 62 := by unfold newRing Rn.Ring.l; simp
    have h0 : (newRing 1 m).many = 0 := rfl
    have hmo : (newRing 1 m).most = m := rfl
    generalize newRing 1 m = r at *
    have la : lenS A = some k := by rw [F1.a.len]; simp
    have lb : lenS B = some k := by rw [F1.b.len]; simp
    have lc : lenS C = some 64 := by rw [F2.a.len]; simp
    have le : lenS E = some 64 := by rw [F2.b.len]; simp
    have n1 := F1.a.one; have n2 := F1.b.one; have n3 := F2.a.one; have n4 := F2.b.one
    have d1 : decide ((1 : Int) ≤ k) = true := dt h1
    have d1' : decide (1 ≤ k) = true := dt (by omega)
    have d2 : decide ((k : Int) ≤ 64) = true := dt h2
    have d2' : decide (k ≤ 64) = true := dt (by omega)
    have d3 : decide (1 ≤ m) = true := dt hb.1
    have d4 : decide (m ≤ 1024) = true := dt hb.2
    rw [show (fnc Tryz.prog cfg R 7 [I k, .agg [I fu, I fm, I m]] = some (.bool true)) = Q (fnc Tryz.prog cfg R 7 [I k, .agg [I fu, I fm, I m]]) by rw [hQ]]
    rw [fnc_at rfl, body_eq Tryz.func7 rfl rfl]
    simp [argsσ, fixed13, e1, e2', g1, la, lb, lc, le, d1, d1', d2, d2', d3, d4, n1, n2, n3, n4, Option.bind_assoc, -getElem?_pos]
    refine freshlaw_loop k (by omega) fu fm m r hmay h0 hmo hll A B C E H2 _ _ F1' F2 g2 _ Q k 0 _ (by omega) (by simp [argsσ]) (by simp) (by simp) (by simp) (by simp) (by simp) (by simp) ?_
    intro σ'
    rw [hQ]
    simp [Vm.results]
  · have h' : ¬ (1 ≤ n ∧ n ≤ 64) ∨ inb m 1 1024 = false := by
      by_cases h1 : 1 ≤ n ∧ n ≤ 64
      · right; cases hm : inb m 1 1024
        · rfl
        · exact absurd ⟨h1, hm⟩ h
      · exact .inl h1
    obtain ⟨H1, e1, p1, l1⟩ := fresh_no n fu fm m h' [⟨0, 3, [.agg [I fu, I fm, I m]], 0⟩]
    simp only [List.length_cons, List.length_nil] at p1
    have g1 : H1[0]? = some ⟨0, 3, [.agg [I fu, I fm, I m]], 0⟩ := p1 0 (by omega)
    rw [fnc_at rfl, body_eq Tryz.func7 rfl rfl]
    cases d1 : decide (1 ≤ n)
    · simp [argsσ, Vm.results, fixed13, e1, g1, d1, -getElem?_pos]
    cases d2 : decide (n ≤ 64)
    · simp [argsσ, Vm.results, fixed13, e1, g1, d1, d2, -getElem?_pos]
    cases d3 : decide (1 ≤ m)
    · simp [argsσ, Vm.results, fixed13, e1, g1, d1, d2, d3, -getElem?_pos]
    cases d4 : decide (m ≤ 1024)
    · simp [argsσ, Vm.results, fixed13, e1, g1, d1, d2, d3, d4, -getElem?_pos]
    exfalso
    have := of_decide_eq_true d1; have := of_decide_eq_true d2; have := of_decide_eq_true d3; have := of_decide_eq_true d4
    rcases h' with h | h
    · omega
    · simp [inb] at h; omega
end Go.Proofs.YtifmjomfoilnnaaGreatW.Rg
