/- The document: a new world. No conditions. -/
import Derived.Test.YtifmjomfoilnnaaGreatVmW5
set_option linter.unusedVariables false
set_option linter.unusedSimpArgs false
set_option maxRecDepth 10000
namespace Go.Proofs.YtifmjomfoilnnaaGreatW.Rg
open Go.Proofs.YtifmjomfoilnnaaGreatW.Vm Go.Proofs.YtifmjomfoilnnaaGreatW.Md
open Go.Proofs.YtifmjomfoilnnaaGreatW.Rn (Ring encRing newRing noRing inb)
open Go Go.Proofs
set_option maxHeartbeats 8000000 in
theorem rwnew_no (p : Option (List Fu)) (hb : Bnd (p.getD [])) (hl : (p.getD []).length < 2 ^ 63) (args : Option (List Vl)) (ha : (args.getD []).length < 2 ^ 62) (s n fu fm m : Int) (h : ¬ NewOk (p.getD []) (args.getD []) s n fu fm m) :
    fnc Tryz.prog cfg R 12 [encProg p, encL 2 encV args, I s, I n, .agg [I fu, I fm, I m]] = some (.tup [encW zW, I 1]) := by
  have e1 := rgood_spec p hb
  obtain ⟨d, e2, hd⟩ := rnew_spec p hb hl 0 args s ha
  obtain ⟨x, rfl, _⟩ := frame_of hd
  have e3 := rpnew_spec fm
  have exf : ∀ (h : List Ob) (b : Option (List Fu)), exp1 h (encL 4 encFunc b) = some (encL 4 encFunc b) := fun h z => exp_clean (by simp) (by simp)
  have exv : ∀ (h : List Ob) (b : Option (List Vl)), exp1 h (encL 2 encV b) = some (encL 2 encV b) := fun h z => exp_clean (by simp) (by simp)
  have hnp : (newPn fm).isSome = (decide (1 ≤ fm) && decide (fm ≤ 1024)) := by
    unfold newPn
    by_cases c1 : 1 ≤ fm <;> by_cases c2 : fm ≤ 1024 <;> simp [c1, c2]
  have zw : encW zW = .agg [.snil, I 0, I 0, I 0, .snil, .snil, I 0, .snil, .snil, I 0, I 0, I 0, I 0, I 0, I 0, I 0, I 0, I 0, I 0] := rfl
  rw [zw]
  generalize ((newPn fm).getD ⟨[], [], 0⟩).most = pm at *
  by_cases hF : (1 ≤ n ∧ n ≤ 64) ∧ inb m 1 1024 = true
  · obtain ⟨⟨n1, n2⟩, hm⟩ := hF
    obtain ⟨k, rfl⟩ : ∃ k : Nat, n = k := ⟨n.toNat, by omega⟩
    obtain ⟨A, B, H1, eF, F, kp, l1⟩ := rfresh_ok k (by omega) (by omega) fu fm m hm [⟨0, 3, [.agg [I fu, I fm, I m]], 0⟩, ⟨0, 19, [encW zW], 0⟩, ⟨0, 16, [encX x], 0⟩, ⟨0, 3, [pnC .snil .snil pm], 0⟩]
    simp only [List.length_cons, List.length_nil] at kp l1
    have g0 := kp 0 (by omega); have g1 := kp 1 (by omega)
    simp only [List.getElem?_cons_succ, List.getElem?_cons_zero] at g0 g1
    have u1 : ∀ o, (H1.set 1 o)[1]? = some o := fun o => List.getElem?_set_self (by omega)
    have nA := F.a.one; have nB := F.b.one
    have lA : lenS A = some k := by rw [F.a.len]; simp
    have k0 : decide (k = 0) = false := df (by omega)
    have k0' : decide ((k : Int) = 0) = false := df (by omega)
    rw [zw] at eF g1
    rw [fnc_at rfl, body_eq Tryz.func12 rfl rfl]
    cases k1 : good (p.getD []) <;> rw [k1] at e1
    · simp [argsσ, Vm.results, e1, e2, e3, eF, nA, nB, lA, k0, k0', g0, g1, u1, exf, exv, -getElem?_pos]
    cases k2 : (newF (p.getD []) 0 (args.getD []) s).isSome <;> rw [k2] at e2
    · simp [argsσ, Vm.results, e1, e2, e3, eF, nA, nB, lA, k0, k0', g0, g1, u1, exf, exv, -getElem?_pos]
    cases k3 : (newPn fm).isSome <;> rw [k3] at e3
    · simp [argsσ, Vm.results, e1, e2, e3, eF, nA, nB, lA, k0, k0', g0, g1, u1, exf, exv, -getElem?_pos]
    cases k4 : decide (fu < 1)
    case true => simp [argsσ, Vm.results, e1, e2, e3, eF, nA, nB, lA, k0, k0', k4, g0, g1, u1, exf, exv, -getElem?_pos]
    cases k5 : decide (100000 < fu)
    case true => simp [argsσ, Vm.results, e1, e2, e3, eF, nA, nB, lA, k0, k0', k4, k5, g0, g1, u1, exf, exv, -getElem?_pos]
    exfalso
    rw [hnp] at k3
    simp only [Bool.and_eq_true, decide_eq_true_eq] at k3
    exact h ⟨by unfold good at k1; simpa using k1, k2, ⟨n1, n2⟩, ⟨by have := of_decide_eq_false k4; omega, by have := of_decide_eq_false k5; omega⟩, k3, hm⟩
  · have hF' : ¬ (1 ≤ n ∧ n ≤ 64) ∨ inb m 1 1024 = false := by
      by_cases h1 : 1 ≤ n ∧ n ≤ 64
      · right; cases hm : inb m 1 1024
        · rfl
        · exact absurd ⟨h1, hm⟩ hF
      · exact .inl h1
    obtain ⟨A, B, H1, eF, iA, iB, kp, l1, _, _⟩ := rfresh_no n fu fm m hF' [⟨0, 3, [.agg [I fu, I fm, I m]], 0⟩, ⟨0, 19, [encW zW], 0⟩, ⟨0, 16, [encX x], 0⟩, ⟨0, 3, [pnC .snil .snil pm], 0⟩]
    simp only [List.length_cons, List.length_nil] at kp l1
    have g0 := kp 0 (by omega); have g1 := kp 1 (by omega)
    simp only [List.getElem?_cons_succ, List.getElem?_cons_zero] at g0 g1
    have u1 : ∀ o, (H1.set 1 o)[1]? = some o := fun o => List.getElem?_set_self (by omega)
    have nA := iA.one; have nB := iB.one
    have lA : lenS A = some 0 := by rw [iA.len]; rfl
    rw [zw] at eF g1
    rw [fnc_at rfl, body_eq Tryz.func12 rfl rfl]
    cases k1 : good (p.getD []) <;> rw [k1] at e1
    · simp [argsσ, Vm.results, e1, e2, e3, eF, nA, nB, lA, g0, g1, u1, exf, exv, -getElem?_pos]
    cases k2 : (newF (p.getD []) 0 (args.getD []) s).isSome <;> rw [k2] at e2
    · simp [argsσ, Vm.results, e1, e2, e3, eF, nA, nB, lA, g0, g1, u1, exf, exv, -getElem?_pos]
    cases k3 : (newPn fm).isSome <;> rw [k3] at e3
    · simp [argsσ, Vm.results, e1, e2, e3, eF, nA, nB, lA, g0, g1, u1, exf, exv, -getElem?_pos]
    · simp [argsσ, Vm.results, e1, e2, e3, eF, nA, nB, lA, g0, g1, u1, exf, exv, -getElem?_pos]
set_option maxHeartbeats 8000000 in
theorem rwnew_ok (p : Option (List Fu)) (hb : Bnd (p.getD [])) (hl : (p.getD []).length < 2 ^ 63) (args : Option (List Vl)) (ha : (args.getD []).length < 2 ^ 62) (s n fu fm m : Int) (h : NewOk (p.getD []) (args.getD []) s n fu fm m) :
    ∃ (x : Fx) (cs : Option (List Ce)) (fr : Option (List Int)) (ri : Option (List Ring)) (cu : Option (List Rf)), some x.f = newF (p.getD []) 0 (args.getD []) s ∧ cs.getD [] = [⟨0, true, x⟩] ∧ fr.getD [] = [] ∧ ri.getD [] = List.replicate n.toNat (newRing 1 m) ∧ cu.getD [] = (List.replicate n.toNat noR).set 0 ⟨0, 0⟩ ∧
    fnc Tryz.prog cfg R 12 [encProg p, encL 2 encV args, I s, I n, .agg [I fu, I fm, I m]] = some (.tup [encW ⟨p, fu, fm, m, cs, fr, fm, ri, cu, ⟨0, 0⟩, 0, 0, o0, 0, 0, 0⟩, I 0]) := by
  have e1 := rgood_spec p hb
  obtain ⟨d, e2, hd⟩ := rnew_spec p hb hl 0 args s ha
  obtain ⟨x, rfl, hxf⟩ := frame_of hd
  have e3 := rpnew_spec fm
  have hnp : newPn fm = some ⟨[], [], fm⟩ := by unfold newPn; rw [if_pos h.fm]
  rw [hnp] at e3
  rw [h.f] at e2
  have hgd : good (p.getD []) = true := by unfold good; rw [h.g]; rfl
  rw [hgd] at e1
  have hxs : some x.f = newF (p.getD []) 0 (args.getD []) s := by
    cases hn : newF (p.getD []) 0 (args.getD []) s with
    | none => have := h.f; rw [hn] at this; cases this
    | some f => rw [hxf, hn]; rfl
  obtain ⟨dp, e5, cs, fr, hdp, hc, hf⟩ := rlay_spec none none fm x (by simp) (by simp)
  have hlf : layPn ⟨(none : Option (List Ce)).getD [], (none : Option (List Int)).getD [], fm⟩ x = (⟨[⟨0, true, x⟩], [], fm⟩, ⟨0, 0⟩, 0) := lay_first h.fm x
  rw [hlf] at e5 hdp hc hf
  simp only at e5 hdp hc hf
  subst hdp
  simp only [encL_none] at e5
  have exf : ∀ (h : List Ob) (b : Option (List Fu)), exp1 h (encL 4 encFunc b) = some (encL 4 encFunc b) := fun h z => exp_clean (by simp) (by simp)
  have exv : ∀ (h : List Ob) (b : Option (List Vl)), exp1 h (encL 2 encV b) = some (encL 2 encV b) := fun h z => exp_clean (by simp) (by simp)
  have exz : ∀ (h : List Ob) (b : Option (List Slt)), exp1 h (encL 6 encSlt b) = some (encL 6 encSlt b) := fun h z => exp_clean (by simp) (by simp)
  have exc : ∀ (h : List Ob) (b : Option (List Ce)), exp1 h (encL 18 encCe b) = some (encL 18 encCe b) := fun h z => exp_clean (by simp) (by simp)
  have exi : ∀ (h : List Ob) (b : Option (List Int)), exp1 h (encL 1 I b) = some (encL 1 I b) := fun h z => exp_clean (by simp) (by simp)
  have zw : encW zW = .agg [.snil, I 0, I 0, I 0, .snil, .snil, I 0, .snil, .snil, I 0, I 0, I 0, I 0, I 0, I 0, I 0, I 0, I 0, I 0] := rfl
  obtain ⟨k, rfl⟩ : ∃ k : Nat, n = k := ⟨n.toNat, by have := h.n; omega⟩
  have hk1 : 1 ≤ k := by have := h.n; omega
  have hk2 : k ≤ 64 := by have := h.n; omega
  obtain ⟨A, B, H1, eF, F, kp, l1⟩ := rfresh_ok k hk1 hk2 fu fm m h.m [⟨0, 3, [.agg [I fu, I fm, I m]], 0⟩, ⟨0, 19, [encW zW], 0⟩, ⟨0, 16, [encX x], 0⟩, ⟨0, 3, [pnC .snil .snil fm], 0⟩]
  simp only [List.length_cons, List.length_nil] at kp l1
  have F' : Fw H1 k (newRing 1 m) A B 5 := F
  obtain ⟨ia, va, ra, hA, _, _, _⟩ := F.a.ix (t := 33) un33 sz54 (i := 0) (by simp; omega)
  obtain ⟨id, ver, rest, hB, hh, _, hix⟩ := F.b.ix (t := 34) un34 sz36 (i := 0) (by simp; omega)
  have hix0 : indexAddrD Tryz.prog 34 B (I 0) = some (.ptr id ver 0 0) := hix
  have hidl := (List.getElem?_eq_some_iff.1 hh).1
  have hid5 : 5 ≤ id := F'.lo id (.inr (by rw [hB]; rfl))
  have nab : ¬ At A id := fun e => F'.d id e (by rw [hB]; rfl)
  have hel := rep_elW (e := encRf) (x := noR) (n := k) (i := 0) (by omega) rest
  have hml : 0 < ((List.replicate k noR).map encRf ++ rest).length := by simp; omega
  have g0 := kp 0 (by omega); have g1 := kp 1 (by omega); have g2 := kp 2 (by omega); have g3 := kp 3 (by omega)
  simp only [List.getElem?_cons_succ, List.getElem?_cons_zero] at g0 g1 g2 g3
  rw [zw] at eF g1
  have lA : lenS A = some k := by rw [F.a.len]; simp
  have k0 : decide (k = 0) = false := df (by omega)
  have k0' : decide ((k : Int) = 0) = false := df (by omega)
  have k4 : decide (fu < 1) = false := df (by have := h.fu; omega)
  have k5 : decide (100000 < fu) = false := df (by have := h.fu; omega)
  have ap : ∀ o o' : Ob, H1 ++ [o] ++ [o'] = H1 ++ [o, o'] := fun o o' => by simp
  have qa : ∀ o o' : Ob, (H1 ++ [o, o'])[H1.length]? = some o := fun o o' => by simp
  have qb : ∀ o o' : Ob, (H1 ++ [o, o'])[H1.length + 1]? = some o' := fun o o' => by simp
  have sa : ∀ o o' p : Ob, (H1 ++ [o, o']).set H1.length p = H1 ++ [p, o'] := fun o o' p => by simp
  have sb : ∀ o o' p : Ob, (H1 ++ [o, o']).set (H1.length + 1) p = H1 ++ [o, p] := fun o o' p => by simp
  have q0 : ∀ t : List Ob, (H1 ++ t)[0]? = some ⟨0, 3, [.agg [I fu, I fm, I m]], 0⟩ := fun t => by rw [List.getElem?_append_left (by omega), g0]
  have qi : ∀ t : List Ob, (H1 ++ t)[id]? = some ⟨ver, 2, (List.replicate k noR).map encRf ++ rest, 0⟩ := fun t => by rw [List.getElem?_append_left hidl, hh]
  have si : ∀ (o : Ob) (t : List Ob), (H1 ++ t).set id o = H1.set id o ++ t := fun o t => set_lt hidl o
  have ra0 : ∀ o p p' : Ob, (H1.set id o ++ [p, p'])[H1.length]? = some p := fun o p p' => by rw [List.getElem?_append_right (by simp)]; simp
  have rb0 : ∀ o p p' : Ob, (H1.set id o ++ [p, p'])[H1.length + 1]? = some p' := fun o p p' => by rw [List.getElem?_append_right (by simp)]; simp
  have r0 : ∀ (o : Ob) (t : List Ob), (H1.set id o ++ t)[0]? = some ⟨0, 3, [.agg [I fu, I fm, I m]], 0⟩ := fun o t => by rw [List.getElem?_append_left (by simp; omega), List.getElem?_set_ne (by omega), g0]
  have r1 : ∀ (o : Ob) (t : List Ob), (H1.set id o ++ t)[1]? = some ⟨0, 19, [.agg [.snil, I 0, I 0, I 0, .snil, .snil, I 0, .snil, .snil, I 0, I 0, I 0, I 0, I 0, I 0, I 0, I 0, I 0, I 0]], 0⟩ := fun o t => by rw [List.getElem?_append_left (by simp; omega), List.getElem?_set_ne (by omega), g1]
  have s1 : ∀ (o q : Ob) (t : List Ob), ((H1.set id o ++ t).set 1 q)[1]? = some q := fun o q t => List.getElem?_set_self (by simp; omega)
  have hset : ((List.replicate k noR).map encRf ++ rest).set 0 (.agg [I 0, I 0]) = ((List.replicate k noR).set 0 ⟨0, 0⟩).map encRf ++ rest := by
    rw [List.set_append_left _ _ (by simp; omega), List.map_set]
  have iA : ∀ (o q : Ob) (t : List Ob), IsS ((H1.set id o ++ t).set 1 q) 4 ((List.replicate k (newRing 1 m)).map encRing) A := fun o q t =>
    ((F'.a.set nab o).app t).set (fun e => by have := F'.lo 1 (.inl e); omega) q
  have iB : ∀ (q : Ob) (t : List Ob), IsS ((H1.set id ⟨ver, 2, ((List.replicate k noR).map encRf ++ rest).set 0 (.agg [I 0, I 0]), 0⟩ ++ t).set 1 q) 2 (((List.replicate k noR).set 0 ⟨0, 0⟩).map encRf) B := fun q t => by
    refine .inr (.inr ⟨id, ver, rest, by rw [hB]; simp, ?_⟩)
    rw [List.getElem?_set_ne (by omega), List.getElem?_append_left (by simp; omega), List.getElem?_set_self hidl, hset]
  have xA := fun o q t => ((iA o q t).expO (cl_ringsW _)).1
  have yA := ((iA ⟨0, 0, [], 0⟩ ⟨0, 0, [], 0⟩ []).expO (cl_ringsW _)).2
  have xB := fun q t => ((iB q t).expO (cl_rfs _)).1
  have yB := ((iB ⟨0, 0, [], 0⟩ []).expO (cl_rfs _)).2
  have nA := F.a.one; have cA := F.a.cells; have nB := F.b.one; have cB := F.b.cells
  refine ⟨x, cs, fr, oS (List.replicate k (newRing 1 m)) A, oS ((List.replicate k noR).set 0 ⟨0, 0⟩) B, hxs, hc, hf, by rw [yA, Int.toNat_natCast], by rw [yB, Int.toNat_natCast], ?_⟩
  generalize oS (List.replicate k (newRing 1 m)) A = oA at *
  generalize oS ((List.replicate k noR).set 0 ⟨0, 0⟩) B = oB at *
  generalize (List.replicate k noR).map encRf ++ rest = LB at *
  clear iA iB yA yB hset
  rw [fnc_at rfl, body_eq Tryz.func12 rfl rfl]
  simp [argsσ, Vm.results, e1, e2, e3, e5, eF, nA, cA, nB, cB, lA, k0, k0', k4, k5, g0, g1, g2, g3, ap, qa, qb, sa, sb, q0, qi, si, ra0, rb0, r0, r1, s1, hix0, hel, hml, xA, xB, o0, v0, exf, exv, exz, exc, exi, -List.map_append, -List.map_replicate, -getElem?_pos]
end Go.Proofs.YtifmjomfoilnnaaGreatW.Rg
