import Derived.Test.YtclfpfdpaigdiaaVmR8
import Derived.Test.YtclfpfdpaigdiaaVmR10
set_option linter.unusedVariables false
set_option linter.unusedSimpArgs false
namespace Go.Proofs.YtclfpfdpaigdiaaW.Rg
open Go.Proofs.YtclfpfdpaigdiaaW.Vm
open Go Go.Proofs
theorem zeroOk33 : zeroOk Try.prog 33 = true := by simp [zeroOk]
/-- one list behind another -/
theorem app_refs (A B : List Ref) (ver : Nat) (hb : (A.length + B.length) * 16 ≤ 2 ^ 47) : ∃ ver', ∀ (h : List Ob) (id ty : Nat) (C : List Ref), A ++ B = C → h[id]? = some ⟨ver, 2, A.map encRef, 0⟩ →
    builtinD Try.prog h .append #[22, 22] ty [.own 2 id ver 0 A.length, .sl 2 (B.map encRef) false] = some (.own 2 id ver' 0 C.length, h.set id ⟨ver', 2, C.map encRef, 0⟩) := by
  by_cases hB : B = []
  · refine ⟨ver, fun h id ty C hC hh => ?_⟩
    subst hB; subst hC
    simp only [builtinD, appendD, appNew]
    simp [elsZ_own, elsOf_own, hh, take_refs, zeroOk33]
    refine ⟨by simp at hb; simpa [big] using hb, ?_⟩
    have hlt : id < h.length := by
      rcases Nat.lt_or_ge id h.length with h' | h'
      · exact h'
      · rw [List.getElem?_eq_none h'] at hh; cases hh
    apply List.ext_getElem?
    intro j
    by_cases e : id = j
    · subst e; rw [List.getElem?_set_self hlt, hh]
    · rw [List.getElem?_set_ne e]
  · refine ⟨ver + 1, fun h id ty C hC hh => ?_⟩
    subst hC
    have hB0 : B.length ≠ 0 := fun e => hB (List.length_eq_zero_iff.1 e)
    rw [app_own (P := Try.prog) (ats := #[22, 22]) (old := A.map encRef) (new := B.map encRef) (o := ⟨ver, 2, A.map encRef, 0⟩) rfl rfl el22 un22 sz33 sz33 by33 ag33 zeroOk33 (by decide) (by decide) (by simp [elsOf_own, hh, take_refs]) (by simp) (by simpa using hB0) (by simpa using hb) hh (by simp)]
    simp
theorem half_law (r : Ring) (hl : r.l.length ≤ maxLen) : fnc Try.prog cfg R 8 [encRing r] = some (.bool true) := by
  rw [fnc_eq cfg_ext, body_eq Try.func8 rfl rfl]
  have hsm := small_spec r
  have hmy := rmay_spec r
  cases hs : decide (r.l.length ≤ 60)
  · rw [hs] at hsm
    simp [argsσ, Vm.results, fixed_ok, hsm]
  cases hm : may r
  · rw [hs] at hsm
    rw [hm] at hmy
    simp [argsσ, Vm.results, fixed_ok, hsm, hmy]
  rw [hs] at hsm
  rw [hm] at hmy
  have h := (may_iff r).1 hm
  have hs : r.l.length ≤ 60 := by simpa using hs
  have := h.h6; have := h.h7
  have hu : upper r = (r.many.toNat + 1) / 2 := rfl
  have hI := Items_ok h
  have hH := half_ok h
  have hN := new_ok 1 64 (by decide) (by decide)
  obtain ⟨hok, hmany⟩ := st_ok h (upper r) (by omega)
  have hI2 := Items_ok hok
  have hsp := split_items r h (upper r) (by omega)
  have hfl : (firsts r (upper r)).length = upper r := by simp [firsts]
  have hNo : Ok (newRing 1 64) := ⟨by simp [newRing, Ring.l], by simp [newRing, Ring.l], by simp [newRing], by simp [newRing], by simp [newRing, Ring.l], by simp [newRing], by simp [newRing, Ring.l]⟩
  have hp0 : (newRing 1 64).many + (firsts r (upper r)).length ≤ (newRing 1 64).most := by rw [hfl]; show (0 : Int) + _ ≤ 64; omega
  have hP := push_ok hNo (some (firsts r (upper r))) hp0
  rw [Option.getD_some] at hP
  have hpo := (pushes_ok _ _ hNo hp0).1
  have hI3 := Items_ok (ok_buf hpo)
  have hit : items (pushes (newRing 1 64) (firsts r (upper r))) = firsts r (upper r) := by rw [items_pushes _ _ hNo hp0]; rfl
  rw [items_buf, hit] at hI3
  have hil : (items r).length ≤ 60 := by simp [items]; omega
  have hil2 : (items (st r (upper r))).length = r.many.toNat - upper r := by simp [items, hmany]
  have hR := refs_spec (some (items r)) (some (items r)) (by simp; omega)
  obtain ⟨v1, ha1⟩ := app_refs [] (firsts r (upper r)) 0 (by rw [hfl]; simp; omega)
  obtain ⟨v2, ha2⟩ := app_refs (firsts r (upper r)) (items (st r (upper r))) v1 (by rw [hfl, hil2]; omega)
  have ha1 := fun h id ty => ha1 h id ty (firsts r (upper r)) rfl
  have ha2 := fun h id ty => ha2 h id ty (items r) hsp
  obtain ⟨q, hq⟩ : ∃ q : Int, ((firsts r (upper r)).length : Int) - (items (st r (upper r))).length = q := ⟨_, rfl⟩
  have hw : IntKind.i64.wrap (((firsts r (upper r)).length : Int) - (items (st r (upper r))).length) = q := by rw [hq]; exact IntWalk.i64_in _ (by omega)
  have c1 : decide (0 ≤ q) = true := by apply decide_eq_true; omega
  have c2 : decide (q ≤ 1) = true := by apply decide_eq_true; omega
  simp only [List.map_nil, List.length_nil] at ha1
  generalize items (st r (upper r)) = B at *
  generalize hx : ({ pushes (newRing 1 64) (firsts r (upper r)) with buf := some (pushes (newRing 1 64) (firsts r (upper r))).l } : Ring) = xr at *
  generalize st r (upper r) = left at *
  generalize firsts r (upper r) = A at *
  generalize newRing 1 64 = e0 at *
  have hd := dr8_7
  simp [opsAt, opsIn, Try.f8] at hd
  have hdw := Wdraw hd
  have hbs := fun dst ty pos af g st ps => op_bslice (P := Try.prog) (cfg := ⟨cfg.shared, cfg.ext, true⟩) (run := R) dst ty pos af g st (n := 0) ps el22 sz33 ag33 ze33 (by simp) (by decide) (by decide)
  simp only [encS_some] at hI hI2 hI3 hR hH hP
  simp [argsσ, Vm.results, fixed_ok, hsm, hmy, hI, hH, hN, hP, hI2, hI3, hdw, hbs, fillD, ha1, ha2, logL, loud, isE, drawChk, exp_own, elsOf_own, take_refs, cleans_refs, hR, retK_flat, hw, c1, c2]
end Go.Proofs.YtclfpfdpaigdiaaW.Rg
