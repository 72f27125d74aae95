import Derived.Test.YtclfpfdpaigdiaaVmREnds2
set_option linter.unusedVariables false
set_option linter.unusedSimpArgs false
namespace Go.Proofs.YtclfpfdpaigdiaaW.Rg
open Go.Proofs.YtclfpfdpaigdiaaW.Vm
open Go Go.Proofs
theorem ends_law (r : Ring) (b : Option (List Ref)) (hl : r.l.length ≤ maxLen) (hb : (b.getD []).length ≤ maxLen) : fnc Try.prog cfg R 5 [encRing r, encS b] = some (.bool true) := by
  have hml : maxLen = 2 ^ 63 - 1 := rfl
  rw [fnc_eq cfg_ext, body_eq Try.func5 rfl rfl]
  have hsm := small_spec r
  have hmy := rmay_spec r
  cases hs : decide (r.l.length ≤ 60)
  · rw [hs] at hsm
    simp [argsσ, Vm.results, fixed_ok, hsm]
  rw [hs] at hsm
  cases h20 : decide ((20 : Int) < (b.getD []).length)
  case true => simp [argsσ, Vm.results, fixed_ok, hsm, h20]
  cases hm : may r
  · rw [hm] at hmy
    simp [argsσ, Vm.results, fixed_ok, hsm, h20, hmy]
  rw [hm] at hmy
  have h := (may_iff r).1 hm
  have hs : r.l.length ≤ 60 := by simpa using hs
  have h20' : (b.getD []).length ≤ 20 := by have := of_decide_eq_false h20; omega
  have := h.h2; have := h.h3; have := h.h6; have := h.h7; have := h.h1
  have hI := Items_ok h
  have hil := items_len h
  obtain ⟨v1, ha1⟩ := app_refs [] (items r) 0 (by rw [hil]; simp; omega)
  have ha1 := fun h id ty => ha1 h id ty (items r) rfl
  simp only [List.map_nil, List.length_nil] at ha1
  simp only [encS_some] at hI
  have hbs := fun dst ty pos af g st ps => op_bslice (P := Try.prog) (cfg := cfg) (run := R) dst ty pos af g st (n := 0) ps el22 sz33 ag33 ze33 (by simp) (by decide) (by decide)
  by_cases hA : r.many + (b.getD []).length ≤ r.most
  case neg =>
    have P1 := push_full h b (by omega) (by omega)
    simp [argsσ, Vm.results, fixed_ok, hsm, h20, hmy, hI, P1, hbs, fillD, ha1]
  obtain ⟨okA0, mA0, tA0⟩ := pushes_ok (b.getD []) r h hA
  have hia : items (norm (pushes r (b.getD []))) = items r ++ b.getD [] := by
    show items (pushes r (b.getD [])) = _
    exact items_pushes _ _ h hA
  have P1 : fnc Try.prog cfg R 11 [encRing r, encS b] = some (.tup [encRing (norm (pushes r (b.getD []))), I 0]) := push_ok h b hA
  have okN : Ok (norm (pushes r (b.getD []))) := ok_buf okA0
  have mA : (norm (pushes r (b.getD []))).many = r.many + (b.getD []).length := mA0
  generalize norm (pushes r (b.getD [])) = a at *
  generalize hbl : b.getD [] = l at *
  obtain ⟨w, hw⟩ : ∃ w, (items r).length = w := ⟨_, rfl⟩
  have hmw : a.many = (w + l.length : Nat) := by omega
  have get : ∀ j, j < w + l.length → (items r ++ l)[j]? = some (item a j) := fun j hj => by rw [← hia]; exact items_get a (by omega)
  have hit1 : ∀ j (hj : j < (items r).length), item a j = (items r)[j] := fun j hj => by
    have := get j (by omega)
    rw [List.getElem?_append_left hj, List.getElem?_eq_getElem hj] at this
    exact (Option.some.inj this).symm
  have hit2 : ∀ j (hj : j < l.length), item a (w + j) = l[j] := fun j hj => by
    have := get (w + j) (by omega)
    rw [List.getElem?_append_right (by omega), show w + j - (items r).length = j by omega, List.getElem?_eq_getElem hj] at this
    exact (Option.some.inj this).symm
  have hd := dr5_7
  simp [opsAt, opsIn, Try.f5] at hd
  have hdw := Wdraw hd
  clear hd
  have hwl : IntKind.i64.wrap ((l.length : Int) - 1) = (l.length : Int) - 1 := IntWalk.i64_in _ (by omega)
  simp [argsσ, fixed_ok, hsm, h20, hmy, hI, P1, hbs, fillD, ha1, hdw, logL, loud, isE, drawChk, hbl, hwl, Option.bind_assoc]
  refine ends_pops a okN w b l hbl hmw hit2 _ _ _ _ (.own 2 1 v1 0 w) _ _ l.length _ _ (Nat.le_refl _) ⟨rfl, rfl, rfl, rfl⟩ ?_ (by simp [argsσ]) (by simp) (by simp [hw]) (by simp) (by simp) (by simp) (by simp) ?_
  · unfold cutTo; rw [← hmw]; rfl
  intro σ' H' k3 g3 s1 s2 s5 s6 s8 s9
  simp [s1, s2, s5, s6, s8, s9, Option.bind_assoc]
  refine ends_steals a okN w v1 (items r) hw b l hbl hmw hit1 hit2 _ _ _ _ _ (w + l.length) 0 H' _ (by omega) ⟨k3.h0, k3.h1, k3.h2, g3⟩ k3.h4 (by simp [s1]) (by simp [s2]) (by simp [s5]) (by simp [s6]) (by simp [s8]) (by simp [s9]) (by simp) ?_
  intro σ2 H2 k4 g4 t1 t2 t5 t6 t8 t9
  have hlt : 4 < H2.length := by
    rcases Nat.lt_or_ge 4 H2.length with h | h
    · exact h
    · rw [List.getElem?_eq_none h] at g4; cases g4
  have q0 : ∀ t, (H2 ++ t)[0]? = H2[0]? := fun t => get_lt (by omega)
  have q1 : ∀ t, (H2 ++ t)[1]? = H2[1]? := fun t => get_lt (by omega)
  have q2 : ∀ t, (H2 ++ t)[2]? = H2[2]? := fun t => get_lt (by omega)
  have q3 : ∀ t, (H2 ++ t)[3]? = H2[3]? := fun t => get_lt (by omega)
  obtain ⟨okE, mE⟩ := st_ok okN (w + l.length) (by omega)
  have hE := steal_no okE (by omega)
  have hIc := Items_ok (cutTo_ok okN w (by omega))
  have hic : items (cutTo a w) = items r := by
    have e : items (cutTo a w) = (items a).take w := by
      show (List.range w).map (item a) = ((List.range a.many.toNat).map (item a)).take w
      rw [← List.map_take, List.take_range, show min w a.many.toNat = w by omega]
    rw [e, hia, List.take_append_of_le_length (by omega), List.take_of_length_le (by omega)]
  rw [hic] at hIc
  have hIa := Items_ok okN
  rw [hia] at hIa
  have hRs := refs_same (items r) (by omega)
  simp only [encS_some] at hIc hIa
  have hwl2 : IntKind.i64.wrap ((w : Int) + l.length) = (w : Int) + l.length := IntWalk.i64_in _ (by omega)
  have htw : ((items r).map encRef).take w = (items r).map encRef := by rw [← hw, take_refs]
  generalize hAl : items r ++ l = both at *
  have hbo : ((both.length : Int)) = (w : Int) + l.length := by rw [← hAl, List.length_append, hw]; simp
  simp [t1, t2, t5, t6, t8, t9, q0, q1, q2, q3, k4.h0, k4.h1, k4.h2, k4.h3, g4, hE, hIc, hIa, hI, hRs, hbl, hwl2, hbo, Vm.results, get_app, get_app0, set_app, set_app0, exp_own, elsOf_own, hw, htw, retK_flat, List.getElem?_cons_zero, List.getElem?_cons_succ, -getElem?_pos]
end Go.Proofs.YtclfpfdpaigdiaaW.Rg
