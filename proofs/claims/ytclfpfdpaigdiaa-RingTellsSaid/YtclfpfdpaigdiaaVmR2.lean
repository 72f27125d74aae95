import Derived.Test.YtclfpfdpaigdiaaVmR1
set_option linter.unusedVariables false
set_option linter.unusedSimpArgs false
namespace Go.Proofs.YtclfpfdpaigdiaaW.Rg
open Go.Proofs.YtclfpfdpaigdiaaW.Vm
open Go Go.Proofs
def rf0 : Ref := ⟨0, 0⟩
/-- the item of a number -/
def item (r : Ring) (j : Nat) : Ref := r.l.getD ((r.head.toNat + j) % r.l.length) rf0
def items (r : Ring) : List Ref := (List.range r.many.toNat).map (item r)
/-- a ring that may be -/
structure Ok (r : Ring) : Prop where
  h1 : 1 ≤ r.l.length
  h2 : (r.l.length : Int) ≤ r.most
  h3 : r.most ≤ 1024
  h4 : 0 ≤ r.head
  h5 : r.head < r.l.length
  h6 : 0 ≤ r.many
  h7 : r.many ≤ r.l.length
theorem may_iff (r : Ring) : may r = true ↔ Ok r := by
  simp only [may, inb, Bool.and_eq_true, decide_eq_true_eq]
  constructor
  · intro h; exact ⟨by omega, by omega, by omega, by omega, by omega, by omega, by omega⟩
  · intro h; have := h.h1; have := h.h2; have := h.h3; have := h.h4; have := h.h5; have := h.h6; have := h.h7; omega
theorem place_nat {a b n : Nat} : (((a : Int) + b).tmod n) = ((a + b) % n : Nat) := by
  rw [show ((a : Int) + b) = ((a + b : Nat) : Int) by simp, Int.tmod_eq_emod_of_nonneg (by omega)]; rfl
theorem place_ok (r : Ring) (h : Ok r) (j : Nat) (hj : j < 2 ^ 60) : fnc Try.prog cfg R 30 [encRing r, I j] = some (I ((r.head.toNat + j) % r.l.length : Nat)) := by
  have := h.h1; have := h.h2; have := h.h3; have := h.h4; have := h.h5
  rw [place_spec r j (by omega) (by omega) (by omega) (by omega)]
  rw [← place_nat, Int.toNat_of_nonneg h.h4]
theorem l_get (r : Ring) {i : Nat} (hi : i < r.l.length) : ((r.buf.getD []).map encRef)[i]? = some (encRef (r.l.getD i rf0)) := by
  have : r.l[i]? = some r.l[i] := List.getElem?_eq_getElem hi
  simp [List.getElem?_map, show r.buf.getD [] = r.l from rfl, this, List.getD_eq_getElem?_getD]
theorem ix_encS (b : Option (List Ref)) (i : Int) (hi : 0 ≤ i ∧ i < ((b.getD []).length : Int)) : indexAddrD Try.prog 22 (encS b) (I i) = some (.fptr 2 ((b.getD []).map encRef) i.toNat 0) := by
  cases b with
  | none => simp at hi; omega
  | some l => exact ix_sl un22 sz33 _ _ _ _ (by simpa using hi)
@[simp] theorem cleans_refs : ∀ rs : List Ref, cleans (rs.map encRef) = true
  | [] => rfl
  | x :: rs => by simp [cleans_refs rs]
theorem set_refs (rs : List Ref) (i : Nat) (x : Ref) : (rs.map encRef).set i (encRef x) = (rs.set i x).map encRef := by simp [List.map_set]
theorem items_loop (r : Ring) (h : Ok r) (n : Nat) (hn : r.many = n) {X : Type} (K : Ex × St → Option X) (x : X) : ∀ (m i : Nat) (rs : List Ref) (σ : Nat → D), i + m = n → rs.length = n → (∀ j, j < i → rs[j]? = some (item r j)) →
    σ 1 = .ptr 0 0 0 0 → σ 3 = .own 2 1 0 0 n → σ 10 = I n → σ 11 = I i →
    (∀ σ', σ' 3 = .own 2 1 0 0 n → K (.exit 0, ⟨σ', [⟨0, 4, [encRing r], 0⟩, ⟨0, 2, (items r).map encRef, 0⟩], 27⟩) = some x) →
    (W Try.prog cfg (.loop (loopAt Try.f33 3)) ⟨σ, [⟨0, 4, [encRing r], 0⟩, ⟨0, 2, rs.map encRef, 0⟩], 27⟩).bind K = some x
  | 0, i, rs, σ, hm, hl, he, s1, s3, s10, s11, hK => by
    have e : rs = items r := by
      apply List.ext_getElem?
      intro j
      by_cases hj : j < i
      · rw [he j hj]; simp [items, List.getElem?_range (show j < r.many.toNat by omega)]
      · rw [List.getElem?_eq_none (by omega), List.getElem?_eq_none (by simp [items]; omega)]
    rw [Wloop]
    have hlt : ¬ (i < n) := by omega
    conv => lhs; arg 1; arg 1; simp [loopAt, loopIn, headId, Try.f33, s10, s11, hlt]
    subst e
    exact hK _ (by simp [s3])
  | m + 1, i, rs, σ, hm, hl, he, s1, s3, s10, s11, hK => by
    rw [Wloop]
    have hlt : i < n := by omega
    have := h.h1; have := h.h2; have := h.h3; have := h.h6; have := h.h7
    have hp := place_ok r h i (by omega)
    have hpl : (r.head.toNat + i) % r.l.length < r.l.length := Nat.mod_lt _ (by omega)
    generalize hq : (r.head.toNat + i) % r.l.length = q at hp hpl
    have hit : item r i = r.l.getD q rf0 := by rw [item, hq]
    have hix := ix_encS r.buf q (by constructor; omega; exact_mod_cast hpl)
    have hii := ix_own (P := Try.prog) un22 sz33 1 0 0 n .i64 i (by omega)
    rw [show (0 + (i : Int).toNat) = i by simp] at hii
    rw [show (q : Int).toNat = q by simp] at hix
    have hd := dr33_5
    simp [opsAt, opsIn, Try.f33] at hd
    have hdw := Wdraw0 hd
    have hg := l_get r hpl
    rw [← hit] at hg
    have hge : rs[i]? = some rs[i] := List.getElem?_eq_getElem (by omega)
    have hwr : IntKind.i64.wrap ((i : Int) + 1) = i + 1 := IntWalk.i64_in _ (by omega)
    conv => lhs; arg 1; arg 1; simp [loopAt, loopIn, headId, Try.f33, s1, s3, s10, s11, hlt, hdw, hp, hix, hii, hg, hge, hwr, fnc_nomark]
    rw [Option.bind_some, loopK_normal, set_refs]
    refine items_loop r h n hn K x m (i + 1) _ _ (by omega) (by simp [hl]) ?_ (by simp [s1]) (by simp [s3]) (by simp [s10]) (by simp) hK
    intro j hj
    by_cases e : j = i
    · subst e; simp [List.getElem?_set, hl, hlt]
    · simp [List.getElem?_set, Ne.symm e, he j (by omega)]
theorem items33 (r : Ring) (h : Ok r) : fnc Try.prog cfg R 33 [encRing r] = some (.sl 2 ((items r).map encRef) false) := by
  rw [fnc_eq cfg_ext, body_eq Try.func33 rfl rfl]
  obtain ⟨n, hn⟩ : ∃ n : Nat, r.many = n := ⟨r.many.toNat, by have := h.h6; omega⟩
  have := h.h1; have := h.h2; have := h.h3; have := h.h6; have := h.h7
  have hmk := fun (hp : List Ob) => mk_slice (P := Try.prog) el22 sz33 by33 ze33 (by simp) (by decide) (by decide) hp .i64 .i64 n n (by omega) (by omega) (by omega)
  simp [argsσ, hn, hmk, -Option.map_eq_map, Option.bind_assoc]
  rw [show List.replicate n (D.agg [D.int .i64 0, D.int .i64 0]) = (List.replicate n rf0).map encRef from by simp [rf0]]
  refine items_loop r h n hn _ _ n 0 _ _ (by omega) (by simp) (by simp) (by simp) (by simp) (by simp) (by simp) ?_
  intro σ' h3
  have hlen : (items r).length = n := by simp [items, hn]
  simp [h3, Vm.results, exp_own, elsOf_own, hlen, cleans_refs, List.take_of_length_le]
end Go.Proofs.YtclfpfdpaigdiaaW.Rg
