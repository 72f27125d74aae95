/- An instruction that lays and takes as another one can stand in its place. No conditions. -/
import Derived.Test.YtcbmmiglccmekaaVmL8f
set_option linter.unusedVariables false
set_option linter.unusedSimpArgs false
namespace Go.Proofs.YtcbmmiglccmekaaW.Rg
open Go.Proofs.YtcbmmiglccmekaaW.Vm Go.Proofs.YtcbmmiglccmekaaW.Md
open Go Go.Proofs
theorem retS (h : List Ob) (av : List D) : retK cfg h av .snil = some (.snil, h) := retK_flat h av .snil rfl
theorem fields8_law (p : Option (List Fu)) (hb : Bnd (p.getD [])) (hz : ∀ f ∈ p.getD [], f.c.length * 24 ≤ 2 ^ 47) (re im fn : Int) : fnc Try.prog cfg R 7 [encProg p, .agg [I re, I im], I fn] = some (.bool true) := by
  rw [fnc_at rfl, body_eq Try.func7 rfl rfl]
  have hS := small_spec p 300
  have hlen := hb.len
  cases hs : small (p.getD []) 300 with
  | false => rw [hs] at hS; simp [argsσ, Vm.results, hS, fixed8]
  | true =>
  rw [hs] at hS
  cases k1 : decide (fn < 0)
  case true => simp [argsσ, Vm.results, hS, fixed8, k1]
  cases k2 : decide (((p.getD []).length : Int) ≤ fn)
  case true => simp [argsσ, Vm.results, hS, fixed8, k1, k2]
  have m1 := of_decide_eq_false k1; have m2 := of_decide_eq_false k2
  obtain ⟨n, rfl⟩ : ∃ n : Nat, fn = n := ⟨fn.toNat, by omega⟩
  have k2' : decide ((p.getD []).length ≤ n) = false := df (by omega)
  have hn : n < (p.getD []).length := by omega
  cases r1 : decide (re < 0)
  case true => simp [argsσ, Vm.results, hS, fixed8, k1, k2, k2', r1]
  cases r2 : decide (250 < re)
  case true => simp [argsσ, Vm.results, hS, fixed8, k1, k2, k2', r1, r2]
  cases i1 : decide (im < 0)
  case true => simp [argsσ, Vm.results, hS, fixed8, k1, k2, k2', r1, r2, i1]
  cases i2 : decide (250 < im)
  case true => simp [argsσ, Vm.results, hS, fixed8, k1, k2, k2', r1, r2, i1, i2]
  have hr : 0 ≤ re ∧ re ≤ 250 := by have := of_decide_eq_false r1; have := of_decide_eq_false r2; omega
  have hi : 0 ≤ im ∧ im ≤ 250 := by have := of_decide_eq_false i1; have := of_decide_eq_false i2; omega
  obtain ⟨lp, rfl⟩ : ∃ lp, p = some lp := by cases p with | none => simp at hn | some lp => exact ⟨lp, rfl⟩
  obtain ⟨f, hf⟩ : ∃ f, lp[n]? = some f := ⟨_, List.getElem?_eq_getElem hn⟩
  have hx := idxD_nat .i64 hn
  simp only [Option.getD_some] at *
  have hfm := List.mem_of_getElem? hf
  have h20 : lp.length ≤ 20 := by unfold small at hs; simp at hs; exact hs.1
  have hfl := hb.2 f hfm
  obtain ⟨a, b, c, code⟩ := f
  have hC := check_spec (some lp) (by simp; omega)
  have d1 := depths_spec (some lp) (by simp; omega) n
  simp only [Option.getD_some] at d1 hC
  rw [show (if good lp = true ∧ 0 ≤ (n : Int) ∧ (n : Int) < lp.length then some (depths lp n) else none) = depO lp n from rfl] at d1
  have ap1 : ∀ h : List Ob, apK 48 4 h (D.sl 4 [] true) [] (lp.map encFunc) = some (.own 4 h.length 0 0 lp.length, h ++ [⟨0, 4, lp.map encFunc, 0⟩]) := by
    intro h
    rw [apK_ok (by simp only [List.length_nil, List.length_map]; omega), apN_sl' (by rw [List.length_map]; omega)]; simp [newOb]
  by_cases hc0 : code.getD [] = []
  · -- no code
    have hC2 := check_bad lp (by omega) n hn a b c
    have d2 := cdepths_bad lp (by omega) n hn a b c n
    have hm0 : mayP lp = false := by
      cases h : mayP lp with
      | false => rfl
      | true => have := fmay_len (mayP_f h hfm); rw [show (Fu.c ⟨a, b, c, code⟩) = code.getD [] from rfl, hc0] at this; simp at this
    have hC0 : check lp = (0, 0, 1) := by unfold check; rw [hm0]; rfl
    have hg0 : good lp = false := by unfold good; rw [hC0]; rfl
    have d0 : depO lp n = none := by unfold depO; rw [if_neg (by simp [hg0])]
    rw [hC0] at hC
    rw [d0] at d1
    have hI := ints_spec none none (by simp)
    replace d1 : fnc Try.prog cfg R 14 [encProg (some lp), I n] = some .snil := d1
    replace hI : fnc Try.prog cfg R 13 [.snil, .snil] = some (.bool true) := by simpa [encL] using hI
    have ap2 : ∀ h : List Ob, apK 24 3 h (D.sl 3 [] true) [] [] = some (.sl 3 [] true, h) := by
      intro h
      rw [apK_ok (by simp), apN_nil]
    simp only [badE] at hC2 d2
    have hcb : cleans ((lp.map encFunc).set n (.agg [I a, I b, I c, .sl 3 [] true])) = true := by rw [clean_set _ _ _ hn]; simp
    have exb : ∀ (o0 o2 : Ob), exp1 [o0, ⟨0, 4, (lp.map encFunc).set n (.agg [I a, I b, I c, .sl 3 [] true]), 0⟩, o2] (.own 4 1 0 0 lp.length) = some (.sl 4 ((lp.map encFunc).set n (.agg [I a, I b, I c, .sl 3 [] true])) false) := by
      intro o0 o2
      rw [exp_own, elsOf_own]
      simp only [List.getElem?_cons_succ, List.getElem?_cons_zero, Option.bind_some]
      rw [if_pos (by simp), List.drop_zero, List.take_of_length_le (by simp), Option.bind_some, ownK_clean _ _ _ hcb]
    simp [argsσ, hS, fixed8, k1, k2, k2', hx, hf, r1, r2, i1, i2, ap1, hc0, ap2, Wloop, hC, hC2, d1, d2, exb, retK_flat, retS, hI, Vm.results, flat, flats]
  · obtain ⟨cd, rfl⟩ : ∃ cd, code = some cd := by cases code with | none => simp at hc0 | some cd => exact ⟨cd, rfl⟩
    have hcl : cd.length ≠ 0 := by intro h; exact hc0 (List.length_eq_zero_iff.1 h)
    have hz1 := hz _ hfm
    rw [show (Fu.c ⟨a, b, c, some cd⟩) = cd from rfl] at hz1
    have ap2 : ∀ h : List Ob, apK 24 3 h (D.sl 3 [] true) [] (cd.map encInstr) = some (.own 3 h.length 0 0 cd.length, h ++ [⟨0, 3, cd.map encInstr, 0⟩]) := by
      intro h
      rw [apK_ok (by simp only [List.length_nil, List.length_map]; omega), apN_sl' (by rw [List.length_map]; omega)]; simp [newOb]
    simp [argsσ, hS, fixed8, k1, k2, k2', hx, hf, r1, r2, i1, i2, ap1, ap2, Option.bind_assoc]
    refine fields_loop re im hr hi (encProg (some lp)) (I n) (.own 4 1 0 0 lp.length) ⟨0, 4, lp.map encFunc, 0⟩ a b c cd.length (by omega) _ (fun o => o = some _) cd [] 0 _ _ (by simp) rfl (by simp) (by simp [argsσ]) (by simp [argsσ]) (by simp) (by simp) (by simp) (by simp) ?_ ?_
    · intro σ' H' t6
      simp [t6, Vm.results]
    · intro σ' hall t0 t2 t7 t8
      have hlike : ∀ (i : Nat) f g, lp[i]? = some f → (lp.set n ⟨a, b, c, some (cd.map (newI re im))⟩)[i]? = some g → FLike f g := by
        intro i f g h1 h2
        rw [List.getElem?_set] at h2
        split at h2
        · rename_i h; subst h
          try rw [if_pos hn] at h2
          rw [hf] at h1
          cases h1; cases h2
          refine ⟨rfl, rfl, rfl, by show cd.length = (cd.map _).length; simp, fun j x y hx hy => ?_⟩
          have hx' : cd[j]? = some x := hx
          have hy' : (cd.map (newI re im))[j]? = some y := hy
          rw [List.getElem?_map, hx'] at hy'
          simp at hy'; subst hy'
          exact newI_like hr hi (hall x (List.mem_of_getElem? hx'))
        · rw [h1] at h2; cases h2; exact .refl f
      obtain ⟨e1, _⟩ := check_like (p := lp) (q := lp.set n ⟨a, b, c, some (cd.map (newI re im))⟩) (by simp) hlike
      have e2 := depths_like (p := lp) (q := lp.set n ⟨a, b, c, some (cd.map (newI re im))⟩) (by simp) hlike n
      have hC2 := check_spec (some (lp.set n ⟨a, b, c, some (cd.map (newI re im))⟩)) (by simp; omega)
      have d2 := depths_spec (some (lp.set n ⟨a, b, c, some (cd.map (newI re im))⟩)) (by simp; omega) n
      simp only [Option.getD_some] at d2 hC2
      rw [show (if good (lp.set n ⟨a, b, c, some (cd.map (newI re im))⟩) = true ∧ 0 ≤ (n : Int) ∧ (n : Int) < (lp.set n ⟨a, b, c, some (cd.map (newI re im))⟩).length then some (depths (lp.set n ⟨a, b, c, some (cd.map (newI re im))⟩) n) else none) = depO (lp.set n ⟨a, b, c, some (cd.map (newI re im))⟩) n from rfl] at d2
      rw [← e1] at hC2
      have hI := ints_spec (depO lp n) (depO (lp.set n ⟨a, b, c, some (cd.map (newI re im))⟩) n) (by rw [depO_get]; have := depths_len lp n; omega)
      rw [depO_get, depO_get, dt e2] at hI
      have hE := fun (o0 o2 : Ob) => exp_prog2 (H := [o0, ⟨0, 4, (lp.map encFunc).set n (.agg [I a, I b, I c, .own 3 3 0 0 cd.length]), 0⟩, o2, ⟨0, 3, (cd.map (newI re im)).map encInstr, 0⟩]) (i0 := 1) (v0 := 0) (z0 := 0) (id := 3) (ver := 0) (z := 0) (k := n) (n := lp.length) (m := cd.length) (l := lp) (a := a) (b := b) (c := c) (code := cd.map (newI re im)) rfl rfl hn rfl (by simp)
      have rk : ∀ (h : List Ob) (o : Option (List Int)), retK cfg h [encProg (some lp), I n] (encL 1 I o) = some (encL 1 I o, h) := fun h o => retK_some h _ _ (by simp)
      simp [t0, t2, t7, t8, hx, hn, hC, hC2, d1, d2, hE, rk, retK_flat, flat, flats, hI, -List.map_map]
      obtain ⟨H', hR⟩ := ret_any [⟨0, 2, [.agg [I re, I im]], 0⟩, ⟨0, 4, (lp.map encFunc).set n (.agg [I a, I b, I c, .own 3 3 0 0 cd.length]), 0⟩, ⟨0, 4, [.agg [I a, I b, I c, .own 3 3 0 0 cd.length]], 0⟩, ⟨0, 3, (cd.map (newI re im)).map encInstr, 0⟩] [.own 4 1 0 0 lp.length, I n] (encL 1 I (depO (lp.set n ⟨a, b, c, some (cd.map (newI re im))⟩) n))
      simp only [hR]
      simp [hI, retK_flat, Vm.results]
end Go.Proofs.YtcbmmiglccmekaaW.Rg
