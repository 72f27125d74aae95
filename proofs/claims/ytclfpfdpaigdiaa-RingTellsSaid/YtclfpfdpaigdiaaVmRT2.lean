/- The document's push of one item. No conditions. -/
import Derived.Test.YtclfpfdpaigdiaaVmRT1
set_option linter.unusedVariables false
set_option linter.unusedSimpArgs false
namespace Go.Proofs.YtclfpfdpaigdiaaW.Rg
open Go.Proofs.YtclfpfdpaigdiaaW.Vm
open Go Go.Proofs
def fillI (its : List Ref) (m i : Nat) : List Ref := its.take i ++ List.replicate (m - i) rf0
theorem fillI_set {its : List Ref} {m i : Nat} {x : Ref} (hx : its[i]? = some x) (hm : i < m) : (fillI its m i).set i x = fillI its m (i + 1) := by
  have hi : i < its.length := (List.getElem?_eq_some_iff.1 hx).1
  unfold fillI
  rw [show m - i = (m - (i + 1)) + 1 by omega, List.replicate_succ, List.set_append_right _ _ (by simp; omega), List.take_add_one, hx]
  have : i - (its.take i).length = 0 := by simp; omega
  rw [this]; simp
theorem fillI_len {its : List Ref} {m i : Nat} (hi : i ≤ its.length) (hm : i ≤ m) : (fillI its m i).length = m := by
  unfold fillI; simp; omega
theorem fillI_at {its : List Ref} {m i : Nat} (hi : i < its.length) (hm : i < m) : (fillI its m i)[i]? = some rf0 := by
  unfold fillI
  rw [List.getElem?_append_right (by simp; omega), show i - (its.take i).length = 0 by simp; omega]
  rw [List.getElem?_replicate, if_pos (by omega)]
theorem rcopy_loop (its : List Ref) (hl : its.length ≤ 2000) (m : Nat) (hm : its.length ≤ m) (o0 o1 o2 o3 : Ob) (a2 a3 : D) {X : Type} (K : Ex × St → Option X) (Q : Option X → Prop) : ∀ (k i : Nat) (σ : Nat → D), i + k = its.length →
    σ 2 = a2 → σ 3 = a3 → σ 4 = .ptr 2 0 0 0 → σ 5 = encS (some its) → σ 6 = .own 2 4 0 0 m → σ 8 = I i →
    (∀ σ', σ' 2 = a2 → σ' 3 = a3 → σ' 4 = .ptr 2 0 0 0 → σ' 6 = .own 2 4 0 0 m → Q (K (.exit 0, ⟨σ', [o0, o1, o2, o3, ⟨0, 2, (fillI its m its.length).map encRef, 0⟩], 68⟩))) →
    Q ((W Try.prog cfg (.loop (loopAt Try.f29 7)) ⟨σ, [o0, o1, o2, o3, ⟨0, 2, (fillI its m i).map encRef, 0⟩], 68⟩).bind K) := by
  intro k
  induction k with
  | zero =>
    intro i σ hi s2 s3 s4 s5 s6 s8 he
    obtain rfl : i = its.length := by omega
    rw [Wloop]
    conv => arg 1; arg 1; arg 1; simp [loopAt, loopIn, headId, Try.f29, s5, s8]
    exact he _ (by simp [s2]) (by simp [s3]) (by simp [s4]) (by simp [s6])
  | succ k ih =>
    intro i σ hi s2 s3 s4 s5 s6 s8 he
    have hi1 : i < its.length := by omega
    have him : i < m := by omega
    have hlt : decide (i < its.length) = true := dt hi1
    have hw : IntKind.i64.wrap ((i : Int) + 1) = ((i + 1 : Nat) : Int) := wr (by omega) (by omega)
    obtain ⟨x, hx⟩ : ∃ x, its[i]? = some x := ⟨_, List.getElem?_eq_getElem hi1⟩
    have hix := idxD_nat .i64 hi1
    have hg : (its.map encRef)[i]? = some (encRef x) := by rw [List.getElem?_map, hx]; rfl
    have him' := idxD_nat .i64 him
    have hfl : (fillI its m i).length = m := fillI_len (by omega) (by omega)
    have hset : ((fillI its m i).map encRef).set i (encRef x) = (fillI its m (i + 1)).map encRef := by rw [set_refs, fillI_set hx him]
    have hlen : i < ((fillI its m i).map encRef).length := by rw [List.length_map]; omega
    have hgE : ((fillI its m i).map encRef)[i]? = some (encRef rf0) := by rw [List.getElem?_map, fillI_at hi1 him]; rfl
    have ih' := fun (σ2 : Nat → D) a b c d e f => ih (i + 1) σ2 (by omega) a b c d e f he
    generalize (fillI its m i).map encRef = E at *
    rw [Wloop]
    conv => arg 1; arg 1; arg 1; simp [loopAt, loopIn, headId, Try.f29, s5, s6, s8, hlt, hix, hg, hx, him', hlen, hset, hgE, hw, -getElem?_pos, -List.getElem?_map]
    rw [Option.bind_some, loopK_normal]
    exact ih' _ (by simp [s2]) (by simp [s3]) (by simp [s4]) (by simp [s5]) (by simp [s6]) (by simp)
theorem rone_spec {r : Ring} (h : Ok r) (hm : r.many < r.most) (x : Ref) : fnc Try.prog cfg R 29 [encRing r, encRef x] = some (encRing (pushed r x)) := by
  have hI := ritems_ok h
  have hil := items_len h
  have q1 := h.h1; have q2 := h.h2; have q3 := h.h3; have q4 := h.h4; have q5 := h.h5; have q6 := h.h6; have q7 := h.h7
  obtain ⟨hd, hhd⟩ : ∃ n : Nat, r.head = n := ⟨r.head.toNat, by omega⟩
  obtain ⟨mn, hmn⟩ : ∃ n : Nat, r.many = n := ⟨r.many.toNat, by omega⟩
  have hpu : pushed r x = laid (if r.many = r.l.length then grown r else r) x := rfl
  obtain ⟨its, hits⟩ : ∃ its, items r = its := ⟨_, rfl⟩
  have hgl : (grown r).l = its ++ List.replicate ((min (2 * (r.l.length : Int)) r.most).toNat - mn) rf0 := by rw [← hits]; show items r ++ _ = _; rw [hmn]; rfl
  obtain ⟨buf, head, many, most⟩ := r
  dsimp only at hhd hmn
  subst hhd; subst hmn
  obtain ⟨l, rfl⟩ : ∃ l, buf = some l := by
    cases buf with
    | none => have h1 := h.h1; simp [Ring.l] at h1
    | some l => exact ⟨l, rfl⟩
  have hrl : Ring.l ⟨some l, hd, mn, most⟩ = l := rfl
  simp only [hrl] at q1 q2 q3 q4 q5 q6 q7 hpu hgl
  dsimp only at hil hm
  rw [hits] at hI hil
  replace hI : fnc Try.prog cfg R 24 [.agg [.sl 2 (l.map encRef) false, I hd, I mn, I most]] = some (.sl 2 (its.map encRef) false) := hI
  have hil' : its.length = mn := by rw [hil]; omega
  have hap : ∀ h : List Ob, apK 16 2 h (.sl 2 [] true) [] (l.map encRef) = some (.own 2 h.length 0 0 l.length, h ++ [⟨0, 2, l.map encRef, 0⟩]) := fun h => by
    rw [apK_ok (by simp only [List.length_nil, List.length_map]; omega), apN_sl' (by rw [List.length_map]; omega)]; simp [newOb]
  have hw1 : IntKind.i64.wrap ((mn : Int) + 1) = (mn : Int) + 1 := wr (by omega) (by omega)
  rw [fnc_eq cfg_ext, body_eq Try.func29 rfl rfl, hpu]
  by_cases hfull : mn = l.length
  · have c0 : decide (mn = l.length) = true := dt hfull
    have c0' : decide ((mn : Int) = l.length) = true := dt (by omega)
    obtain ⟨m, hmm⟩ : ∃ m : Nat, (m : Int) = min (2 * (l.length : Int)) most := ⟨(min (2 * (l.length : Int)) most).toNat, by omega⟩
    have hw2 : IntKind.i64.wrap (2 * (mn : Int)) = 2 * mn := wr (by omega) (by omega)
    have hmin : (if most < 2 * (mn : Int) then most else 2 * mn) = m := by split <;> omega
    have hmk := fun (hp : List Ob) => mk_slice (P := Try.prog) el22 sz33 by33 ze33 (by simp) (by decide) (by decide) hp .i64 .i64 m m (by omega) (by omega) (by omega)
    rw [show ((m : Int).toNat) = m by simp] at hmk
    rw [rep_refs, show List.replicate m rf0 = fillI its m 0 by simp [fillI]] at hmk
    have hmlt : mn < m := by omega
    have hgl2 : (grown (⟨some l, hd, mn, most⟩ : Ring)).l = fillI its m mn := by
      rw [hgl, fillI, List.take_of_length_le (by omega), ← hmm]; simp
    have hfl : (fillI its m mn).length = m := fillI_len (by omega) (by omega)
    have hpl : laid (grown (⟨some l, hd, mn, most⟩ : Ring)) x = { buf := some ((fillI its m mn).set mn x), head := 0, many := (mn : Int) + 1, most := most } := by
      unfold laid
      rw [hgl2, hfl, show (grown (⟨some l, hd, mn, most⟩ : Ring)).head.toNat = 0 from rfl, show (grown (⟨some l, hd, mn, most⟩ : Ring)).many.toNat = mn by show ((mn : Int)).toNat = mn; simp, Nat.zero_add, Nat.mod_eq_of_lt hmlt]; rfl
    rw [if_pos (by omega), hpl]
    have hset : ((fillI its m mn).map encRef).set mn (encRef x) = ((fillI its m mn).set mn x).map encRef := set_refs _ _ _
    have hqx := idxD_nat .i64 hmlt
    have htk : (((fillI its m mn).set mn x).map encRef).take m = ((fillI its m mn).set mn x).map encRef := List.take_of_length_le (by simp; omega)
    have hcl := cl_refs ((fillI its m mn).set mn x)
    have c1 : decide (m ≤ mn) = false := df (by omega)
    have c1' : decide ((m : Int) ≤ (mn : Int)) = false := df (by omega)
    have hln : ((fillI its m mn).set mn x).length = m := by simp; exact hfl
    have hw0 : IntKind.i64.wrap (mn : Int) = (mn : Int) := wr (by omega) (by omega)
    simp [argsσ, hI, hil', hap, hw1, hw2, bu_min, hmin, hmk, c0, c0', -List.map_set, retK_some, Option.bind_assoc]
    refine rcopy_loop its (by omega) m (by omega) _ _ _ _ (.ptr 0 0 0 0) (.ptr 1 0 0 0) _ (fun o => o = some _) mn 0 _ (by omega) (by simp) (by simp) (by simp) (by simp) (by simp) (by simp) ?_
    intro σ' t2 t3 t4 t6
    rw [hil']
    simp [t2, t3, t4, t6, Vm.results, hw0, hw1, c1, c1', hqx, hfl, hmlt, hset, -List.map_set, exp_own, elsOf_own, htk, hln, ownK_clean, hcl]
  · have c0 : decide (mn = l.length) = false := df hfull
    have c0' : decide ((mn : Int) = l.length) = false := df (by omega)
    have hq : (hd + mn) % l.length = if hd + mn < l.length then hd + mn else hd + mn - l.length := mod_two (by omega)
    have hql : (hd + mn) % l.length < l.length := Nat.mod_lt _ (by omega)
    have hpl : laid (⟨some l, hd, mn, most⟩ : Ring) x = { buf := some (l.set ((hd + mn) % l.length) x), head := hd, many := (mn : Int) + 1, most := most } := by unfold laid; rfl
    rw [if_neg (by omega), hpl]
    obtain ⟨q, hqq⟩ : ∃ q, (hd + mn) % l.length = q := ⟨_, rfl⟩
    rw [hqq] at hq hql ⊢
    have hset : (l.map encRef).set q (encRef x) = (l.set q x).map encRef := set_refs _ _ _
    have hqx := idxD_nat .i64 hql
    have htk : ((l.set q x).map encRef).take l.length = (l.set q x).map encRef := List.take_of_length_le (by simp)
    have hcl := cl_refs (l.set q x)
    by_cases hc : hd + mn < l.length
    · rw [if_pos hc] at hq
      have hw0 : IntKind.i64.wrap ((hd : Int) + mn) = (q : Int) := by rw [hq]; exact wr (by omega) (by omega)
      have c1 : decide (l.length ≤ q) = false := df (by omega)
      have c1' : decide ((l.length : Int) ≤ (q : Int)) = false := df (by omega)
      simp [argsσ, Vm.results, hI, hil', hap, hw0, hw1, c0, c0', c1, c1', hqx, hql, hset, -List.map_set, retK_some, exp_own, elsOf_own, htk, ownK_clean, hcl]
    · rw [if_neg hc] at hq
      obtain ⟨k, hk⟩ : ∃ k, hd + mn = k := ⟨_, rfl⟩
      have hw0 : IntKind.i64.wrap ((hd : Int) + mn) = (k : Int) := by rw [← hk]; exact wr (by omega) (by omega)
      have c1 : decide (l.length ≤ k) = true := dt (by omega)
      have c1' : decide ((l.length : Int) ≤ (k : Int)) = true := dt (by omega)
      have hw2 : IntKind.i64.wrap ((k : Int) - l.length) = (q : Int) := by rw [wr (by omega) (by omega)]; omega
      simp [argsσ, Vm.results, hI, hil', hap, hw0, hw1, hw2, c0, c0', c1, c1', hqx, hql, hset, -List.map_set, retK_some, exp_own, elsOf_own, htk, ownK_clean, hcl]
end Go.Proofs.YtclfpfdpaigdiaaW.Rg
