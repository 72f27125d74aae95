/- One task behind the other: the sum of what two children tell. No conditions. -/
import Derived.Test.YtlpadffinfijgaaVmQW
import Derived.KernelRfl
set_option linter.unusedVariables false
set_option linter.unusedSimpArgs false
set_option maxRecDepth 10000
namespace Go.Proofs.YtlpadffinfijgaaW.Rg
open Go.Proofs.YtlpadffinfijgaaW.Vm Go.Proofs.YtlpadffinfijgaaW.Md
open Go Go.Proofs
def mainS : Fu := ⟨1, 1, 2, some [⟨1, 0, 0⟩, ⟨13, 1, 0⟩, ⟨1, 0, 0⟩, ⟨13, 1, 1⟩, ⟨14, 1, 0⟩, ⟨14, 0, 0⟩, ⟨3, 0, 0⟩, ⟨15, 0, 0⟩]⟩
def sfr (v : Vl) (st : List Vl) (pc sp : Int) (s1 s2 : Slt) : Fr := ⟨0, pc, st, [v], [s1, s2], 2, sp, 0, 0, 0, o0, noK, 0⟩
section
variable (l sl : Int) (cd : Option (List Instr)) (v : Vl)
theorem sm1 : doF [mainS, ⟨1, l, sl, cd⟩] (sfr v [] 0 0 s0 s0) = (sfr v [v] 1 0 s0 s0, acN 1) := by kernel_rfl
theorem sm2 : doF [mainS, ⟨1, l, sl, cd⟩] (sfr v [v] 1 0 s0 s0) = (sfr v [] 2 1 ⟨1, noK, o0⟩ s0, ⟨2, 1, 0, childI 2 0, [v]⟩) := by kernel_rfl
theorem sm3 (o : Ou) : doF [mainS, ⟨1, l, sl, cd⟩] (sfr v [] 2 1 ⟨2, noK, o⟩ s0) = (sfr v [v] 3 1 ⟨2, noK, o⟩ s0, acN 1) := by kernel_rfl
theorem sm4 (o : Ou) : doF [mainS, ⟨1, l, sl, cd⟩] (sfr v [v] 3 1 ⟨2, noK, o⟩ s0) = (sfr v [] 4 2 ⟨2, noK, o⟩ ⟨1, noK, o0⟩, ⟨2, 1, 1, childI 2 1, [v]⟩) := by kernel_rfl
theorem sm5 {o o' : Ou} (h : o'.trap = 0) : doF [mainS, ⟨1, l, sl, cd⟩] (sfr v [] 4 2 ⟨2, noK, o⟩ ⟨2, noK, o'⟩) = (sfr v [o'.v] 5 2 ⟨2, noK, o⟩ s0, acN 1) := by
  have hi : instrAt [mainS, ⟨1, l, sl, cd⟩] (sfr v [] 4 2 ⟨2, noK, o⟩ ⟨2, noK, o'⟩) = some ⟨14, 1, 0⟩ := by kernel_rfl
  have hr : roomX [mainS, ⟨1, l, sl, cd⟩] (sfr v [] 4 2 ⟨2, noK, o⟩ ⟨2, noK, o'⟩) ⟨14, 1, 0⟩ = true := by kernel_rfl
  rw [do_at rfl ⟨Int.le_refl _, by simp [sfr]⟩ hi hr, run14]
  unfold joinF
  rw [if_neg (by simp [slotAt, sfr]), if_neg (by simp [slotAt, sfr]), if_neg (by simp [slotAt, sfr, h])]
  rfl
theorem sm5' {o o' : Ou} (h : o'.trap ≠ 0) : doF [mainS, ⟨1, l, sl, cd⟩] (sfr v [] 4 2 ⟨2, noK, o⟩ ⟨2, noK, o'⟩) = ({ sfr v [] 4 2 ⟨2, noK, o⟩ s0 with state := 2, out := ⟨o'.trap, v0⟩ }, acN 4) := by
  have hi : instrAt [mainS, ⟨1, l, sl, cd⟩] (sfr v [] 4 2 ⟨2, noK, o⟩ ⟨2, noK, o'⟩) = some ⟨14, 1, 0⟩ := by kernel_rfl
  have hr : roomX [mainS, ⟨1, l, sl, cd⟩] (sfr v [] 4 2 ⟨2, noK, o⟩ ⟨2, noK, o'⟩) ⟨14, 1, 0⟩ = true := by kernel_rfl
  rw [do_at rfl ⟨Int.le_refl _, by simp [sfr]⟩ hi hr, run14]
  unfold joinF
  rw [if_neg (by simp [slotAt, sfr]), if_neg (by simp [slotAt, sfr]), if_pos (by simp [slotAt, sfr]; exact h)]
  rfl
theorem sm6 {o : Ou} (w : Vl) (h : o.trap = 0) : doF [mainS, ⟨1, l, sl, cd⟩] (sfr v [w] 5 2 ⟨2, noK, o⟩ s0) = (sfr v [w, o.v] 6 2 s0 s0, acN 1) := by
  have hi : instrAt [mainS, ⟨1, l, sl, cd⟩] (sfr v [w] 5 2 ⟨2, noK, o⟩ s0) = some ⟨14, 0, 0⟩ := by kernel_rfl
  have hr : roomX [mainS, ⟨1, l, sl, cd⟩] (sfr v [w] 5 2 ⟨2, noK, o⟩ s0) ⟨14, 0, 0⟩ = true := by kernel_rfl
  rw [do_at rfl ⟨Int.le_refl _, by simp [sfr]⟩ hi hr, run14]
  unfold joinF
  rw [if_neg (by simp [slotAt, sfr]), if_neg (by simp [slotAt, sfr]), if_neg (by simp [slotAt, sfr, h])]
  rfl
theorem sm7 (w u : Vl) : doF [mainS, ⟨1, l, sl, cd⟩] (sfr v [w, u] 6 2 s0 s0) = (sfr v [addG w u] 7 2 s0 s0, acN 1) := by kernel_rfl
theorem sm8 (w : Vl) : doF [mainS, ⟨1, l, sl, cd⟩] (sfr v [w] 7 2 s0 s0) = ({ sfr v [] 7 2 s0 s0 with state := 2, out := ⟨0, w⟩ }, acN 4) := by kernel_rfl
end
theorem shF_none {x : Fu} (h : ∀ z ∈ x.c, z.op ≠ 13) (hc : x.code = some x.c) : shF x = x := by
  have e : x.c.map (shI 1) = x.c := by
    have : x.c.map (shI 1) = x.c.map id := List.map_congr_left fun z hz => shI_a _ _ (h z hz)
    rw [this, List.map_id]
  unfold shF
  rw [e, ← hc]
theorem code_some {x : Fu} (h : 1 ≤ x.c.length) : x.code = some x.c := by
  unfold Fu.c at *
  cases hx : x.code with
  | none => rw [hx] at h; simp at h
  | some c => rfl
theorem ms_may : fmay mainS = true := by decide +kernel
theorem ms_reach : isR (reach (shapes [mainS, ⟨1, 0, 0, none⟩] mainS.c)) = true := by decide +kernel
theorem ms_field : (mainS.c.all fun x => fieldE 2 mainS x == 0) = true := by decide +kernel
theorem good_ms {x : Fu} (hg : good [x] = true) (ha : x.arity = 1) (h13 : ∀ z ∈ x.c, z.op ≠ 13) : good [mainS, x] = true ∧ SimP 1 [x] [mainS, x] := by
  have hx : x ∈ [x] := by simp
  have hc := code_some (fmay_len (mayP_f (good_iff.1 hg).1 hx)).1
  have e : [mainS, x] = mainS :: [x].map shF := by simp [shF_none h13 hc]
  rw [e]
  refine ⟨good_sh hg (by simp) ms_may (by decide) (fun z hz => ?_) ?_, sim_sh hg (by simp)⟩
  · have := List.all_eq_true.1 ms_field z hz
    simpa using this
  · rw [← e]
    have : shapes [mainS, x] mainS.c = shapes [mainS, ⟨1, 0, 0, none⟩] mainS.c := by
      refine shapes_off fun z hz => ?_
      have hz : z = ⟨1, 0, 0⟩ ∨ z = ⟨13, 1, 0⟩ ∨ z = ⟨1, 0, 0⟩ ∨ z = ⟨13, 1, 1⟩ ∨ z = ⟨14, 1, 0⟩ ∨ z = ⟨14, 0, 0⟩ ∨ z = ⟨3, 0, 0⟩ ∨ z = ⟨15, 0, 0⟩ := by simpa [mainS, Fu.c] using hz
      rcases hz with rfl | rfl | rfl | rfl | rfl | rfl | rfl | rfl
      · rfl
      · show x.arity = 1; exact ha
      · rfl
      · show x.arity = 1; exact ha
      · rfl
      · rfl
      · rfl
      · rfl
    rw [this]
    exact isR_ex ms_reach
theorem sum_run {x : Fu} (hg : good [x] = true) (ha : x.arity = 1) (h13 : ∀ z ∈ x.c, z.op ≠ 13) (h12 : noRand [x]) {v : Vl} {f : Fr} {s : Int} (hf : newF [x] 0 [v] s = some f) {o : Ou} {c : Nat} (hk : ∀ G F, F < G → c ≤ F → runS [x] G f F = some (o, F - c)) (g m : Nat) (hgm : m + 2 * c < g) :
    runS [mainS, x] (g + 8) (sfr v [] 0 0 s0 s0) (m + 2 * c + 8) = if o.trap ≠ 0 then some (⟨o.trap, v0⟩, m + 3) else some (⟨0, addG o.v o.v⟩, m) := by
  obtain ⟨hq, S⟩ := good_ms hg ha h13
  have hm := (good_iff.1 hq).1
  have hS := new_sf hg hf
  have kid : ∀ k, newF [mainS, x] 1 [v] (childI 2 k) = some (f.sh (1 : Nat) (childI 2 k)) := fun k => by
    have := sim_new S hm hf (childS 2 k)
    simpa using this
  have run : ∀ k G F, F < G → c ≤ F → runS [mainS, x] G (f.sh (1 : Nat) (childI 2 k)) F = some (o, F - c) := fun k G F h1 h2 => by
    rw [runS_sim hg hm S G f F _ hS (.inl h12)]
    exact hk G F h1 h2
  obtain ⟨ar, l, sl, cd⟩ := x
  simp only at ha
  subst ha
  rw [show g + 8 = g + 7 + 1 by omega, show m + 2 * c + 8 = m + 2 * c + 7 + 1 by omega, runS_go (sm1 l sl cd v)]
  rw [show g + 7 = g + 6 + 1 by omega, show m + 2 * c + 7 = m + 2 * c + 6 + 1 by omega, runS_sp (sm2 l sl cd v) (kid 0), run 0 (g + 6) (m + 2 * c + 6) (by omega) (by omega)]
  simp only
  have e1 : (giveF (sfr v [] 2 1 ⟨1, noK, o0⟩ s0) 0 o).1 = sfr v [] 2 1 ⟨2, noK, o⟩ s0 := rfl
  rw [e1, show g + 6 = g + 5 + 1 by omega, show m + 2 * c + 6 - c = m + c + 5 + 1 by omega, runS_go (sm3 l sl cd v o)]
  rw [show g + 5 = g + 4 + 1 by omega, show m + c + 5 = m + c + 4 + 1 by omega, runS_sp (sm4 l sl cd v o) (kid 1), run 1 (g + 4) (m + c + 4) (by omega) (by omega)]
  simp only
  have e2 : (giveF (sfr v [] 4 2 ⟨2, noK, o⟩ ⟨1, noK, o0⟩) 1 o).1 = sfr v [] 4 2 ⟨2, noK, o⟩ ⟨2, noK, o⟩ := rfl
  rw [e2, show g + 4 = g + 3 + 1 by omega, show m + c + 4 - c = m + 3 + 1 by omega]
  by_cases ht : o.trap ≠ 0
  · rw [if_pos ht, runS_end (sm5' l sl cd v ht)]
    have : finF { sfr v [] 4 2 ⟨2, noK, o⟩ s0 with state := 2, out := ⟨o.trap, v0⟩ } = (⟨o.trap, v0⟩, true) := by
      unfold finF
      rw [if_neg (by simp [sfr, s0]), if_pos ht]
    rw [this]
  · have h0 : o.trap = 0 := Decidable.not_not.1 ht
    rw [if_neg ht, runS_go (sm5 l sl cd v h0), runS_go (sm6 l sl cd v o.v h0), runS_go (sm7 l sl cd v o.v o.v), show g = g - 1 + 1 by omega, runS_end (sm8 l sl cd v _)]
    rfl
theorem sum_ev {x : Fu} (hg : good [x] = true) (ha : x.arity = 1) (h13 : ∀ z ∈ x.c, z.op ≠ 13) (h12 : noRand [x]) {v : Vl} (hv : v.may = true) :
    (∃ e : Int, e ≠ 0 ∧ evS [x] [v] 1 1000 = (o0, 0, e)) ∨
    ∃ o n, evS [x] [v] 1 1000 = (o, n, 0) ∧ n ≤ 1000 ∧ ((o.trap ≠ 0 ∧ ∃ c, evS [mainS, x] [v] 2 3000 = (o, c, 0)) ∨ (o.trap = 0 ∧ evS [mainS, x] [v] 2 3000 = (⟨0, addG o.v o.v⟩, 2 * n + 8, 0))) := by
  obtain ⟨hq, S⟩ := good_ms hg ha h13
  rcases ev_cases [x] [v] 1 1000 with e | ⟨_, _, _, f, hf, hS, ⟨hr, e⟩ | ⟨o, m, hr, hm, ho, e⟩⟩
  · exact .inl ⟨1, by decide, e⟩
  · exact .inl ⟨100, by decide, e⟩
  · obtain ⟨c, hc⟩ : ∃ c, c = 1000 - m := ⟨_, rfl⟩
    have hm : m < 1000 := hm
    have e : evS [x] [v] 1 1000 = (o, c, 0) := by rw [e, hc]; rfl
    have hr : runS [x] 1001 f 1000 = some (o, m) := hr
    have hk : ∀ G F, F < G → c ≤ F → runS [x] G f F = some (o, F - c) := fun G F h1 h2 => by
      have h3 : runS [x] (1001 + G) f 1000 = some (o, m) := by rw [← runS_gas hg 1001 (1001 + G) f 1000 hS (by omega) (by omega)]; exact hr
      have h4 := runS_enough h3 F (by omega)
      rw [runS_gas hg (1001 + G) G f F hS (by omega) h1] at h4
      rw [h4, hc]
    have hnew : newF [mainS, x] 0 [v] 2 = some (sfr v [] 0 0 s0 s0) := by
      unfold newF
      rw [if_pos ⟨(good_iff.1 hq).1, by decide, by simp, by decide⟩]
      show (if (1 : Int) ≤ 1 ∧ (1 : Int) = 1 ∧ [v].all Vl.may = true then _ else none) = _
      rw [if_pos ⟨by decide, rfl, by simp [hv]⟩]
      rfl
    obtain ⟨k, hkk⟩ : ∃ k, k + 2 * c + 8 = 3000 := ⟨3000 - 2 * c - 8, by omega⟩
    have hrun := sum_run hg ha h13 h12 hf hk 2993 k (by omega)
    rw [show 2993 + 8 = 3000 + 1 from rfl, hkk] at hrun
    have e2 := ev_of (n := 3000) hq hnew (by decide) (by decide)
    rw [hrun] at e2
    have e2' : evS [mainS, x] [v] 2 3000 = match (if o.trap ≠ 0 then some ((⟨o.trap, v0⟩ : Ou), k + 3) else some (⟨0, addG o.v o.v⟩, k)) with | some (o, m) => (o, 3000 - m, 0) | none => (o0, 0, 100) := e2
    refine .inr ⟨o, c, e, by omega, ?_⟩
    by_cases ht : o.trap ≠ 0
    · rw [if_pos ht] at e2'
      refine .inl ⟨ht, 3000 - (k + 3), ?_⟩
      have : (⟨o.trap, v0⟩ : Ou) = o := by
        rcases ho.2 with h | h
        · exact absurd h ht
        · obtain ⟨t, w⟩ := o
          simp only at h
          rw [h.1]
      rw [this] at e2'
      exact e2'
    · rw [if_neg ht] at e2'
      refine .inr ⟨Decidable.not_not.1 ht, ?_⟩
      rw [e2']
      show (_, 3000 - k, (0 : Int)) = _
      rw [show 3000 - k = 2 * c + 8 by omega]
end Go.Proofs.YtlpadffinfijgaaW.Rg
