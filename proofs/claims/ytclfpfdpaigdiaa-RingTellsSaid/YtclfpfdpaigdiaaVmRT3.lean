/- The document's push and half. No conditions. -/
import Derived.Test.YtclfpfdpaigdiaaVmRT2
set_option linter.unusedVariables false
set_option linter.unusedSimpArgs false
namespace Go.Proofs.YtclfpfdpaigdiaaW.Rg
open Go.Proofs.YtclfpfdpaigdiaaW.Vm
open Go Go.Proofs
theorem rpush_loop (r : Ring) (h : Ok r) (b : Option (List Ref)) (l : List Ref) (hb : b.getD [] = l) (hl : r.many + l.length ≤ r.most) (o1 : Ob) {X : Type} (K : Ex × St → Option X) (Q : Option X → Prop) : ∀ (m i : Nat) (σ : Nat → D), i + m = l.length →
    σ 1 = encS b → σ 2 = .ptr 0 0 0 0 → σ 4 = .ptr 1 0 0 0 → σ 6 = I i →
    (∀ σ', σ' 2 = .ptr 0 0 0 0 → σ' 4 = .ptr 1 0 0 0 → Q (K (.exit 0, ⟨σ', [⟨0, 4, [encRing (pushes r l)], 0⟩, o1], 33⟩))) →
    Q ((W Try.prog cfg (.loop (loopAt Try.f12 6)) ⟨σ, [⟨0, 4, [encRing (pushes r (l.take i))], 0⟩, o1], 33⟩).bind K) := by
  have q2 := h.h2; have q6 := h.h6; have q3 := h.h3
  intro m
  induction m with
  | zero =>
    intro i σ hm s1 s2 s4 s6 he
    have hi : ¬ (i < (b.getD []).length) := by rw [hb]; omega
    rw [List.take_of_length_le (by omega)]
    rw [Wloop]
    conv => arg 1; arg 1; arg 1; simp [loopAt, loopIn, headId, Try.f12, s1, s6, hi]
    exact he _ (by simp [s2]) (by simp [s4])
  | succ m ih =>
    intro i σ hm s1 s2 s4 s6 he
    have hi : i < (b.getD []).length := by rw [hb]; omega
    have hlt : decide (i < (b.getD []).length) = true := dt hi
    have hw : IntKind.i64.wrap ((i : Int) + 1) = ((i + 1 : Nat) : Int) := wr (by have := h.h1; omega) (by have := h.h1; omega)
    obtain ⟨x, hx⟩ : ∃ x, l[i]? = some x := ⟨_, List.getElem?_eq_getElem (by rw [← hb]; exact hi)⟩
    have hx' : (b.getD [])[i]? = some x := by rw [hb]; exact hx
    have hix := ix_encS b i ⟨by omega, by omega⟩
    rw [show (i : Int).toNat = i by simp] at hix
    have htl : (l.take i).length = i := by rw [List.length_take]; omega
    obtain ⟨hok, hmn, hms⟩ := pushes_ok (l.take i) r h (by rw [htl]; omega)
    have h1 := rone_spec hok (by rw [hmn, hms, htl]; omega) x
    have hp : pushed (pushes r (l.take i)) x = pushes r (l.take (i + 1)) := by
      rw [List.take_add_one, hx]; simp [pushes]
    rw [hp] at h1
    have ih' := fun (σ2 : Nat → D) a b c d => ih (i + 1) σ2 (by omega) a b c d he
    generalize pushes r (l.take i) = r1 at *
    generalize pushes r (l.take (i + 1)) = r2 at *
    have hd := dr12_8
    simp [opsAt, opsIn, Try.f12] at hd
    have hdw := Wdraw hd
    clear hd
    rw [Wloop]
    conv => arg 1; arg 1; arg 1; simp [loopAt, loopIn, headId, Try.f12, s1, s2, s6, hlt, hix, hx', hdw, logL, loud, isE, drawChk, h1, retK_some, hw, -getElem?_pos]
    rw [Option.bind_some, loopK_normal]
    exact ih' _ (by simp [s1]) (by simp [s2]) (by simp [s4]) (by simp)
theorem rpush_ok {r : Ring} (h : Ok r) (b : Option (List Ref)) (hl : r.many + (b.getD []).length ≤ r.most) : fnc Try.prog cfg R 12 [encRing r, encS b] = some (.tup [encRing (pushes r (b.getD [])), I 0]) := by
  have q2 := h.h2; have q6 := h.h6; have q3 := h.h3; have q1 := h.h1
  have hM := rmay_ok h
  have hw : IntKind.i64.wrap (r.many + ((b.getD []).length : Int)) = r.many + ((b.getD []).length : Int) := wr (by omega) (by omega)
  have c1 : decide (r.most < r.many + ((b.getD []).length : Int)) = false := df (by omega)
  rw [fnc_eq cfg_ext, body_eq Try.func12 rfl rfl]
  simp [argsσ, hM, hw, c1, Option.bind_assoc]
  refine rpush_loop r h b (b.getD []) rfl hl _ _ (fun o => o = some _) (b.getD []).length 0 _ (by omega) (by simp [argsσ]) (by simp) (by simp) (by simp) ?_
  intro σ' t2 t4
  simp [t2, t4, Vm.results]
theorem rpush_full {r : Ring} (h : Ok r) (b : Option (List Ref)) (hb : (b.getD []).length < 2 ^ 62) (hl : r.most < r.many + (b.getD []).length) : fnc Try.prog cfg R 12 [encRing r, encS b] = some (.tup [encRing r, I 110]) := by
  have q2 := h.h2; have q6 := h.h6; have q3 := h.h3; have q1 := h.h1; have q7 := h.h7
  have hM := rmay_ok h
  have hw : IntKind.i64.wrap (r.many + ((b.getD []).length : Int)) = r.many + ((b.getD []).length : Int) := wr (by omega) (by omega)
  have c1 : decide (r.most < r.many + ((b.getD []).length : Int)) = true := dt hl
  rw [fnc_eq cfg_ext, body_eq Try.func12 rfl rfl]
  simp [argsσ, hM, hw, c1, Vm.results]
theorem rpush_bad {r : Ring} (h : ¬ Ok r) (b : Option (List Ref)) : fnc Try.prog cfg R 12 [encRing r, encS b] = some (.tup [encRing r, I 1]) := by
  rw [fnc_eq cfg_ext, body_eq Try.func12 rfl rfl]
  simp [argsσ, rmay_no h, Vm.results]
end Go.Proofs.YtclfpfdpaigdiaaW.Rg
