/- SeqSum: the law. No conditions. -/
import Derived.Test.YtlpadffinfijgaaVmQL7
set_option linter.unusedVariables false
set_option linter.unusedSimpArgs false
set_option maxRecDepth 10000
namespace Go.Proofs.YtlpadffinfijgaaW.Rg
open Go.Proofs.YtlpadffinfijgaaW.Vm Go.Proofs.YtlpadffinfijgaaW.Md
open Go Go.Proofs
noncomputable def smB : Code := Try.f5.body.getD .skip
theorem sm_code : Try.f5.body = some (.seq (sq1 smB) (.seq (sq1 (sq2 smB)) (.seq (sq1 (sq2 (sq2 smB))) (.seq (sq1 (sq2 (sq2 (sq2 smB)))) (.seq (sq1 (sq2 (sq2 (sq2 (sq2 smB))))) (sq2 (sq2 (sq2 (sq2 (sq2 smB)))))))))) := rfl
theorem sm_r9 : sq1 (sq2 (sq2 (sq2 (sq2 smB)))) = .region 9 (opsAt Try.f5 9) false := rfl
theorem go_of_map {f : FuncId} {args : List D} {d : D} (h : (body Try.prog RE f args []).map (·.1) = some d) : ∃ h', CallGo Try.prog f args [] (.ret d) h' := by
  obtain ⟨⟨d', h'⟩, hb, rfl⟩ := Option.map_eq_some_iff.1 h
  exact ⟨h', callGo_W fitE hb⟩
/-- behind the text -/
theorem sm_rest (x : Fu) (v : Vl) (o : Ou) (n : Nat) (e : Int) {HH : List Ob} {σ : Nat → D} (s2 : σ 2 = .ptr 0 0 0 0) (s3 : σ 3 = .ptr 1 0 0 0) (s6 : σ 6 = .ptr 4 0 0 0) (s7 : σ 7 = I n) (s8 : σ 8 = I e) (s9 : σ 9 = .own 4 8 1 0 2)
    (h0 : HH[0]? = some (oF x)) (h1 : HH[1]? = some (oV v)) (h4 : HH[4]? = some ⟨0, 3, [encO o], 0⟩) (h8 : HH[8]? = some ⟨1, 4, [.agg [I 1, I 1, I 2, .own 3 12 7 0 8], .agg [I 0, I 0, I 0, .own 3 40 0 0 1]], 0⟩)
    (h12 : HH[12]? = some ⟨7, 3, [.agg [I 1, I 0, I 0], .agg [I 13, I 1, I 0], .agg [I 1, I 0, I 0], .agg [I 13, I 1, I 1], .agg [I 14, I 1, I 0], .agg [I 14, I 0, I 0], .agg [I 3, I 0, I 0], .agg [I 15, I 0, I 0]], 0⟩)
    (hn : n ≤ 1000) (hev : e ≠ 0 ∨ (e = 0 ∧ ((o.trap ≠ 0 ∧ ∃ c, evS [mainS, x] [v] 2 3000 = (o, c, 0)) ∨ (o.trap = 0 ∧ evS [mainS, x] [v] 2 3000 = (⟨0, addG o.v o.v⟩, 2 * n + 8, 0))))) :
    ∃ σ' H', W Try.prog cfgE (sq2 (sq2 (sq2 (sq2 (sq2 smB))))) ⟨σ, HH, 116⟩ = some (.ret, ⟨σ', H', 116⟩) ∧ σ' 4 = .bool true := by
  have l8 := hlt h8
  have ix1 : idxD 2 (I 1) = some 1 := rfl
  have hE : ∀ T : List Ob, exp1 (HH.set 8 ⟨1, 4, [.agg [I 1, I 1, I 2, .own 3 12 7 0 8], encFunc x], 0⟩ ++ T) (.own 4 8 1 0 2) = some (encProg (some [mainS, x])) := fun T => exp_two (by rw [get_lt (by simpa using l8), gs0 l8]) (by rw [get_lt (by simpa using hlt h12), List.getElem?_set_ne (by decide)]; exact h12)
  have hE0 := hE []
  rw [List.append_nil] at hE0
  have g1 : ∀ o : Ob, (HH.set 8 o)[1]? = some (oV v) := fun o => by rw [List.getElem?_set_ne (by decide)]; exact h1
  have g4 : ∀ (o' : Ob) (T : List Ob), (HH.set 8 o' ++ T)[4]? = some ⟨0, 3, [encO o], 0⟩ := fun o' T => by rw [get_lt (by simpa using hlt h4), List.getElem?_set_ne (by decide)]; exact h4
  obtain ⟨o2, c2, e2, he2⟩ : ∃ o2 c2 e2, evS [mainS, x] [v] 2 3000 = (o2, c2, e2) := ⟨_, _, _, rfl⟩
  have f2 := eval_at (p := some [mainS, x]) (a := some [v]) (by simp) (by simp) he2
  simp only [encL, List.map] at f2
  have hadd := up (rAdd_spec o.v o.v)
  have hdr := drE dr5_18
  simp [opsAt, opsIn, Try.f5] at hdr
  have hdw := Wdraw hdr
  clear hdr
  simp only [encL, List.map] at hE0 hE
  rcases hev with he | ⟨rfl, ⟨ht, c, hc⟩ | ⟨ht, hc⟩⟩
  · have d0 : decide (e = 0) = false := df he
    refine ⟨_, _, by
      conv => lhs; simp [sq1, sq2, smB, Try.f5, s2, s3, s6, s7, s8, s9, h0, h1, h4, h8, g1, g4, ix1, l8, hE0, f2, d0, he, retK_flat, flat, flats, -getElem?_pos], by simp⟩
  · rw [he2] at hc
    cases hc
    have d0 : decide (o.trap = 0) = false := df ht
    refine ⟨_, _, by
      conv => lhs; simp [sq1, sq2, smB, Try.f5, s2, s3, s6, s7, s8, s9, h0, h1, h4, h8, g1, g4, ix1, l8, hE0, f2, d0, ht, retK_flat, flat, flats, -getElem?_pos], by simp⟩
  · rw [he2] at hc
    have a1 := congrArg (fun r : Ou × Nat × Int => r.1) hc
    have a2 := congrArg (fun r : Ou × Nat × Int => r.2.1) hc
    have a3 := congrArg (fun r : Ou × Nat × Int => r.2.2) hc
    simp only at a1 a2 a3
    subst a1; subst a2; subst a3
    have d0 : decide (o.trap = 0) = true := dt ht
    obtain ⟨w, hw⟩ : ∃ w, w = addG o.v o.v := ⟨_, rfl⟩
    rw [← hw] at f2 hadd
    have w1 : IntKind.i64.wrap (2 * (n : Int)) = 2 * (n : Int) := wr (by omega) (by omega)
    have w2 : IntKind.i64.wrap (2 * (n : Int) + 8) = ((2 * n + 8 : Nat) : Int) := by rw [wr (by omega) (by omega)]; omega
    obtain ⟨m, hm⟩ : ∃ m, m = 2 * n + 8 := ⟨_, rfl⟩
    rw [← hm] at w2 f2
    refine ⟨_, _, by
      conv => lhs; simp [sq1, sq2, smB, Try.f5, s2, s3, s6, s7, s8, s9, h0, h1, h4, h8, g1, g4, ix1, l8, hE0, f2, d0, ht, hadd, w1, w2, hdw, logL, loud, isE, drawChk, retK_flat, flat, flats, -getElem?_pos], by simp⟩
end Go.Proofs.YtlpadffinfijgaaW.Rg
