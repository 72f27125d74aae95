import Derived.Test.YtclfpfdpaigdiaaVmR4
set_option linter.unusedVariables false
set_option linter.unusedSimpArgs false
namespace Go.Proofs.YtclfpfdpaigdiaaW.Rg
open Go.Proofs.YtclfpfdpaigdiaaW.Vm
open Go Go.Proofs
/-- a ring that is stolen from i times -/
def st (r : Ring) : Nat → Ring
  | 0 => r
  | i + 1 => stolen (st r i)
theorem Ok.stolen {r : Ring} (h : Ok r) (h0 : 1 ≤ r.many) : Ok (stolen r) := by
  have := h.h1
  have hm : (r.head.toNat + 1) % r.l.length < r.l.length := Nat.mod_lt _ (by omega)
  exact ⟨h.h1, h.h2, h.h3, by simp only [Rg.stolen]; omega, by show (((r.head.toNat + 1) % r.l.length : Nat) : Int) < r.l.length; omega, by simp only [Rg.stolen]; omega, by have := h.h7; show r.many - 1 ≤ (r.l.length : Int); omega⟩
theorem st_ok {r : Ring} (h : Ok r) : ∀ i : Nat, (i : Int) ≤ r.many → Ok (st r i) ∧ (st r i).many = r.many - i
  | 0, _ => ⟨h, by simp [st]⟩
  | i + 1, hi => by
    obtain ⟨a, b⟩ := st_ok h i (by omega)
    exact ⟨a.stolen (by omega), by show (st r i).many - 1 = _; omega⟩
theorem st_l (r : Ring) : ∀ i : Nat, (st r i).l = r.l ∧ (st r i).most = r.most ∧ (st r i).buf = r.buf
  | 0 => ⟨rfl, rfl, rfl⟩
  | i + 1 => st_l r i
def firsts (r : Ring) (n : Nat) : List Ref := (List.range n).map fun j => item (st r j) 0
theorem half_loop (r : Ring) (h : Ok r) (n : Nat) (hn : (n : Int) ≤ r.many) (o0 o1 : Ob) {X : Type} (K : Ex × St → Option X) (x : X) : ∀ (m i : Nat) (rs : List Ref) (σ : Nat → D), i + m = n → rs.length = n → (∀ j, j < i → rs[j]? = some (item (st r j) 0)) →
    σ 2 = .ptr 1 0 0 0 → σ 4 = .ptr 2 0 0 0 → σ 5 = .own 2 3 0 0 n → σ 19 = I n → σ 20 = I i →
    (∀ σ', σ' 2 = .ptr 1 0 0 0 → σ' 4 = .ptr 2 0 0 0 → σ' 5 = .own 2 3 0 0 n → K (.exit 0, ⟨σ', [o0, o1, ⟨0, 4, [encRing (st r n)], 0⟩, ⟨0, 2, (firsts r n).map encRef, 0⟩], 35⟩) = some x) →
    (W Try.prog cfg (.loop (loopAt Try.f17 6)) ⟨σ, [o0, o1, ⟨0, 4, [encRing (st r i)], 0⟩, ⟨0, 2, rs.map encRef, 0⟩], 35⟩).bind K = some x
  | 0, i, rs, σ, hm, hl, he, s2, s4, s5, s19, s20, hK => by
    obtain rfl : i = n := by omega
    have e : rs = firsts r i := by
      apply List.ext_getElem?
      intro j
      by_cases hj : j < i
      · rw [he j hj]; simp [firsts, List.getElem?_range hj]
      · rw [List.getElem?_eq_none (by omega), List.getElem?_eq_none (by simp [firsts]; omega)]
    rw [Wloop]
    conv => lhs; arg 1; arg 1; simp [loopAt, loopIn, headId, Try.f17, s19, s20]
    subst e
    exact hK _ (by simp [s2]) (by simp [s4]) (by simp [s5])
  | m + 1, i, rs, σ, hm, hl, he, s2, s4, s5, s19, s20, hK => by
    rw [Wloop]
    have hlt : i < n := by omega
    have := h.h2; have := h.h3; have := h.h7
    obtain ⟨ho, hmany⟩ := st_ok h i (by omega)
    have hs := steal31 ho
    have hii := ix_own (P := Try.prog) un22 sz33 3 0 0 n .i64 i (by omega)
    rw [show (0 + (i : Int).toNat) = i by simp] at hii
    have hge : rs[i]? = some rs[i] := List.getElem?_eq_getElem (by omega)
    have hwr : IntKind.i64.wrap ((i : Int) + 1) = i + 1 := IntWalk.i64_in _ (by omega)
    conv => lhs; arg 1; arg 1; simp [loopAt, loopIn, headId, Try.f17, s4, s5, s19, s20, hlt, hs, hii, hge, hwr]
    rw [Option.bind_some, loopK_normal, set_refs]
    refine half_loop r h n hn o0 o1 K x m (i + 1) _ _ (by omega) (by simp [hl]) ?_ (by simp [s2]) (by simp [s4]) (by simp [s5]) (by simp [s19]) (by simp) hK
    intro j hj
    by_cases e : j = i
    · subst e; simp [List.getElem?_set, hl, hlt]
    · simp [List.getElem?_set, Ne.symm e, he j (by omega)]
/-- how many are taken -/
def upper (r : Ring) : Nat := (r.many.toNat + 1) / 2
theorem half_ok {r : Ring} (h : Ok r) : fnc Try.prog cfg R 17 [encRing r] = some (.tup [encRing (st r (upper r)), encS (some (firsts r (upper r)))]) := by
  have := h.h1; have := h.h2; have := h.h3; have := h.h6; have := h.h7
  obtain ⟨n, hn⟩ : ∃ n : Nat, n = upper r := ⟨_, rfl⟩
  have hu : upper r = (r.many.toNat + 1) / 2 := rfl
  have hq : (r.many + 1).tdiv 2 = n := by rw [Int.tdiv_eq_ediv_of_nonneg (by omega), hn, upper]; omega
  have hw1 : IntKind.i64.wrap (r.many + 1) = r.many + 1 := IntWalk.i64_in _ (by omega)
  have hw2 : IntKind.i64.wrap (n : Int) = n := IntWalk.i64_in _ (by omega)
  have hmk := fun (hp : List Ob) => mk_slice (P := Try.prog) el22 sz33 by33 ze33 (by simp) (by decide) (by decide) hp .i64 .i64 n n (by omega) (by omega) (by omega)
  rw [show ((n : Int).toNat) = n by simp] at hmk
  rw [rep_refs] at hmk
  rw [fnc_eq cfg_ext, body_eq Try.func17 rfl rfl, ← hn]
  simp [argsσ, may_ok h, hw1, hq, hw2, hmk, bin_quo, Option.bind_assoc, -List.map_replicate]
  refine half_loop r h n (by omega) _ _ _ _ n 0 _ _ (by omega) (by simp) (by simp) (by simp) (by simp) (by simp) (by simp) (by simp) ?_
  intro σ' h2 h4 h5
  have hlen : (firsts r n).length = n := by simp [firsts]
  simp [h2, h4, h5, Vm.results, exp_own, elsOf_own, hlen, cleans_refs, List.take_of_length_le]
end Go.Proofs.YtclfpfdpaigdiaaW.Rg
