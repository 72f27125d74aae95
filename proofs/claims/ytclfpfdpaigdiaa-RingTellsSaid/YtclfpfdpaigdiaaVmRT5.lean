/- Ring and document, side by side. No conditions. -/
import Derived.Test.YtclfpfdpaigdiaaVmRT4
import Derived.Test.YtclfpfdpaigdiaaVmR8
set_option linter.unusedVariables false
set_option linter.unusedSimpArgs false
namespace Go.Proofs.YtclfpfdpaigdiaaW.Rg
open Go.Proofs.YtclfpfdpaigdiaaW.Vm
open Go Go.Proofs
theorem rhalf_bad {r : Ring} (h : ¬ Ok r) : fnc Try.prog cfg R 18 [encRing r] = some (.tup [encRing r, encS (some [])]) := by
  have hI := ritems_no h
  replace hI : fnc Try.prog cfg R 24 [.agg [encS r.buf, I r.head, I r.many, I r.most]] = some (.sl 2 [] false) := hI
  rw [fnc_eq cfg_ext, body_eq Try.func18 rfl rfl, show encS (some []) = .sl 2 [] false from rfl]
  have w1 : IntKind.i64.wrap 1 = 1 := by decide
  have w0 : IntKind.i64.wrap 0 = 0 := by decide
  have t1 : (1 : Int).tdiv 2 = 0 := by decide
  simp [argsσ, hI, retK_some, bin_quo, Wloop, w1, w0, t1, Vm.results]
theorem half_bad {r : Ring} (hl : r.l.length < 2 ^ 62) (h : ¬ Ok r) : ∃ u : Option (List Ref), u.getD [] = [] ∧ fnc Try.prog cfg R 17 [encRing r] = some (.tup [encRing r, encS u]) := by
  refine ⟨none, rfl, ?_⟩
  rw [show encS none = .snil from rfl, fnc_eq cfg_ext, body_eq Try.func17 rfl rfl]
  simp [argsσ, may_no hl h, Vm.results]
theorem push_bad {r : Ring} (hl : r.l.length < 2 ^ 62) (h : ¬ Ok r) (b : Option (List Ref)) : fnc Try.prog cfg R 11 [encRing r, encS b] = some (.tup [encRing r, I 1]) := by
  rw [fnc_eq cfg_ext, body_eq Try.func11 rfl rfl]
  simp [argsσ, may_no hl h, Vm.results]
theorem push_full {r : Ring} (h : Ok r) (b : Option (List Ref)) (hs : (b.getD []).length < 2 ^ 62) (hl : r.most < r.many + (b.getD []).length) : fnc Try.prog cfg R 11 [encRing r, encS b] = some (.tup [encRing r, I 110]) := by
  have q3 := h.h3; have q2 := h.h2; have q6 := h.h6; have q7 := h.h7
  have hw : IntKind.i64.wrap (r.many + ((b.getD []).length : Int)) = r.many + (b.getD []).length := wr (by omega) (by omega)
  have c : decide (r.most < r.many + ((b.getD []).length : Int)) = true := dt hl
  rw [fnc_eq cfg_ext, body_eq Try.func11 rfl rfl]
  simp [argsσ, may_ok h, hw, c, Vm.results]
theorem ok_some {r : Ring} (h : Ok r) : { r with buf := some r.l } = r := by
  obtain ⟨buf, a, b, c⟩ := r
  cases buf with
  | none => have h1 := h.h1; simp [Ring.l] at h1
  | some l => rfl
theorem push_both (r : Ring) (hl : r.l.length < 2 ^ 62) (b : Option (List Ref)) (hb : (b.getD []).length < 2 ^ 62) : ∃ (a : Ring) (e : Int), a.l.length < 2 ^ 62 ∧ fnc Try.prog cfg R 11 [encRing r, encS b] = some (.tup [encRing a, I e]) ∧ fnc Try.prog cfg R 12 [encRing r, encS b] = some (.tup [encRing a, I e]) := by
  by_cases h : Ok r
  · by_cases c : r.many + (b.getD []).length ≤ r.most
    · have h1 := push_ok h b c
      have hk := (pushes_ok (b.getD []) r h c).1
      rw [ok_some hk] at h1
      have q2 := hk.h2; have q3 := hk.h3
      exact ⟨_, _, by omega, h1, rpush_ok h b c⟩
    · exact ⟨_, _, hl, push_full h b hb (by omega), rpush_full h b hb (by omega)⟩
  · exact ⟨_, _, hl, push_bad hl h b, rpush_bad h b⟩
theorem pop_both (r : Ring) (hl : r.l.length < 2 ^ 62) : ∃ (a : Ring) (x : Ref) (w : Bool), a.l.length < 2 ^ 62 ∧ fnc Try.prog cfg R 13 [encRing r] = some (.tup [encRing a, encRef x, .bool w]) ∧ fnc Try.prog cfg R 14 [encRing r] = some (.tup [encRing a, encRef x, .bool w]) := by
  by_cases h : Ok r
  · by_cases c : r.many = 0
    · exact ⟨_, _, _, hl, pop_no h c, rpop_no (.inr c)⟩
    · exact ⟨_, _, _, by exact hl, pop_ok h c, rpop_ok h c⟩
  · exact ⟨_, _, _, hl, pop_bad hl h, rpop_no (.inl h)⟩
theorem steal_both (r : Ring) (hl : r.l.length < 2 ^ 62) : ∃ (a : Ring) (x : Ref) (w : Bool), a.l.length < 2 ^ 62 ∧ fnc Try.prog cfg R 15 [encRing r] = some (.tup [encRing a, encRef x, .bool w]) ∧ fnc Try.prog cfg R 16 [encRing r] = some (.tup [encRing a, encRef x, .bool w]) := by
  by_cases h : Ok r
  · by_cases c : r.many = 0
    · exact ⟨_, _, _, hl, steal_no h c, rsteal_no (.inr c)⟩
    · exact ⟨_, _, _, by exact hl, steal_ok h c, rsteal_ok h c⟩
  · exact ⟨_, _, _, hl, steal_bad hl h, rsteal_no (.inl h)⟩
theorem half_both (r : Ring) (hl : r.l.length < 2 ^ 62) : ∃ (a : Ring) (u v : Option (List Ref)), a.l.length < 2 ^ 62 ∧ (u.getD []).length < 2 ^ 62 ∧ u.getD [] = v.getD [] ∧ fnc Try.prog cfg R 17 [encRing r] = some (.tup [encRing a, encS u]) ∧ fnc Try.prog cfg R 18 [encRing r] = some (.tup [encRing a, encS v]) := by
  by_cases h : Ok r
  · have q3 := h.h3; have q2 := h.h2; have q6 := h.h6; have q7 := h.h7
    refine ⟨_, some _, some _, ?_, ?_, rfl, half_ok h, rhalf_ok h⟩
    · rw [(st_l r _).1]; exact hl
    · show (firsts r (upper r)).length < _
      simp [firsts, upper]; omega
  · obtain ⟨u, hu, h1⟩ := half_bad hl h
    exact ⟨_, u, some [], hl, by rw [hu]; decide, hu, h1, rhalf_bad h⟩
theorem items_both (r : Ring) (hl : r.l.length < 2 ^ 62) : ∃ (u v : Option (List Ref)), (u.getD []).length < 2 ^ 62 ∧ u.getD [] = v.getD [] ∧ fnc Try.prog cfg R 23 [encRing r] = some (encS u) ∧ fnc Try.prog cfg R 24 [encRing r] = some (encS v) := by
  by_cases h : Ok r
  · have q3 := h.h3; have q2 := h.h2; have q6 := h.h6; have q7 := h.h7
    exact ⟨some _, some _, by show (items r).length < _; rw [items_len h]; omega, rfl, Items_ok h, ritems_ok h⟩
  · exact ⟨none, some [], by decide, rfl, Items_no hl h, ritems_no h⟩
theorem new_both (room most : Int) : ∃ (a : Ring) (w : Bool), a.l.length < 2 ^ 62 ∧ fnc Try.prog cfg R 19 [I room, I most] = some (.tup [encRing a, .bool w]) ∧ fnc Try.prog cfg R 20 [I room, I most] = some (.tup [encRing a, .bool w]) := by
  cases h1 : inb most 1 1024 with
  | false => exact ⟨noRing, _, by decide, new_no room most (by rw [h1]; rfl), rnew_no room most (by rw [h1]; rfl)⟩
  | true =>
    cases h2 : inb room 1 most with
    | false => exact ⟨noRing, _, by decide, new_no room most (by rw [h1, h2]; rfl), rnew_no room most (by rw [h1, h2]; rfl)⟩
    | true =>
      refine ⟨_, _, ?_, new_ok room most h1 h2, rnew_ok room most h1 h2⟩
      simp [inb] at h1 h2
      simp [newRing, Ring.l]; omega
theorem same_self (r : Ring) (hl : r.l.length < 2 ^ 62) : fnc Try.prog cfg R 21 [encRing r, encRing r] = some (.bool true) := by
  have hR := refs_spec r.buf r.buf hl
  simp at hR
  rw [fnc_eq cfg_ext, body_eq Try.func21 rfl rfl]
  simp [argsσ, Vm.results, hR]
end Go.Proofs.YtclfpfdpaigdiaaW.Rg
