/- SeqSum, as a law of its own. No conditions. -/
import Derived.Test.YtlpadffinfijgaaVmQL9
set_option linter.unusedVariables false
set_option linter.unusedSimpArgs false
set_option maxRecDepth 10000
namespace Go.Proofs.YtlpadffinfijgaaW.Rg
open Go.Proofs.YtlpadffinfijgaaW.Vm Go.Proofs.YtlpadffinfijgaaW.Md
open Go Go.Proofs
/-- one function alone has a law of its own -/
theorem ext_one {P : Program} {cfg : Cfg} {f : FuncId} {sp : List D → Option D} (hok : FnOk P f) (hs : ∀ args r, sp args = some r → ∃ d h, CallGo P f args [] (.ret d) h ∧ exp1 h d = some r ∧ clean r = true) : ExtOk P { cfg with ext := fun g => if g = f then some sp else none } := by
  refine ⟨fun g t hg => ?_⟩
  by_cases hgf : g = f
  · subst hgf
    have hg : (if g = g then some sp else none) = some t := hg
    rw [if_pos rfl] at hg
    cases hg
    refine ⟨hok, fun args r hr w L vs hL ha => ?_⟩
    obtain ⟨d, h, hgo, hex, hcl⟩ := hs args r hr
    have hargs : RVs (cx0 w L) args vs.toList := RCs.rv (c := cx0 w L) (ha.keep fun b off u h1 h2 => ⟨h1, fun h => h2 ((live0 hL b off).1 h)⟩)
    refine (hgo.2.2 (cx0 w L) (hr0 w L) (fun id hid => by simp at hid) (fun id h1 h2 => ⟨rfl, rfl⟩) vs hargs).mono ?_
    rintro e w' ⟨c', rfl, hstep, v, rfl, hrv⟩
    refine ⟨v, rfl, hstep.bel, hcl, ?_⟩
    refine exp1_rc hstep.hr hstep.ag (fun b off hl hL' => hl (.inl ?_)) d hrv hex hcl ?_
    · rw [hstep.ext.N0, hstep.ext.L0]; exact ⟨hL b off hL', hL'⟩
    · intro m _ b base o hm _ off _ hL'
      have h3 := hstep.hr.ge _ _ _ hm
      rw [hstep.ext.N0] at h3
      have := hL b off hL'
      have h4 : w.heap.size ≤ b := h3
      omega
  · have hg : (if g = f then some sp else none) = some t := hg
    rw [if_neg hgf] at hg
    cases hg
open Classical in
noncomputable def spS (args : List D) : Option D := if ∃ (x : Fu) (v : Vl), x.c.length < 2 ^ 62 ∧ args = [encFunc x, encV v] then some (.bool true) else none
noncomputable def cfgS : Cfg := { cfgE with ext := fun g => if g = 5 then some spS else none }
theorem sum_fn : FnOk Try.prog 5 := ⟨_, Try.func5, by rw [sm_code]; rfl, by decide⟩
theorem extS : ExtOk Try.prog cfgS := ext_one sum_fn fun args r h => by
  unfold spS at h
  split at h
  · rename_i hx
    obtain ⟨x, v, hl, rfl⟩ := hx
    cases h
    obtain ⟨h', hgo⟩ := sum10_go x v hl
    exact ⟨_, h', hgo, by simp, by simp⟩
  · cases h
theorem sum10_law (x : Fu) (v : Vl) (hl : x.c.length < 2 ^ 62) : ∃ k, fnc Try.prog cfgS (exec Try.prog cfgS k) 5 [encFunc x, encV v] = some (.bool true) := by
  refine ⟨0, ?_⟩
  have : cfgS.ext 5 = some spS := by simp [cfgS]
  unfold fnc
  rw [this]
  show spS _ = _
  unfold spS
  rw [if_pos ⟨x, v, hl, rfl⟩]
end Go.Proofs.YtlpadffinfijgaaW.Rg
