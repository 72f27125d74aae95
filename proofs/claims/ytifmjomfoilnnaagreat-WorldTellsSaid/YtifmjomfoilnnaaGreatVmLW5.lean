/- WorldTells. No conditions. -/
import Derived.Test.YtifmjomfoilnnaaGreatVmW6
import Derived.Test.YtifmjomfoilnnaaGreatVmW8
import Derived.Test.YtifmjomfoilnnaaGreatVmLW4
import Derived.Test.YtifmjomfoilnnaaGreatVmFx13
set_option linter.unusedVariables false
set_option linter.unusedSimpArgs false
set_option maxRecDepth 10000
namespace Go.Proofs.YtifmjomfoilnnaaGreatW.Rg
open Go.Proofs.YtifmjomfoilnnaaGreatW.Vm Go.Proofs.YtifmjomfoilnnaaGreatW.Md
open Go.Proofs.YtifmjomfoilnnaaGreatW.Rn (Ring encRing newRing noRing inb)
open Go Go.Proofs
theorem refs_selfT {a b : Option (List Rf)} (h : a.getD [] = b.getD []) (hs : (a.getD []).length < 2 ^ 62) : fnc Tryz.prog cfg R 15 [encL 2 encRf a, encL 2 encRf b] = some (.bool true) := by
  have := refs_spec a b hs
  rw [dt h] at this; exact this
theorem okC_ofT {c : Ce} (h : okX c.x) : okC c := ⟨by have := h.1; omega, by have := h.2.1; omega, by have := h.2.2; omega⟩
theorem smallW_lenT {w : Wd} (h : smallW w = true) : w.rl.length ≤ 70 ∧ w.cl.length ≤ 70 ∧ (w.prog.getD []).length ≤ 20 := by
  unfold smallW small at h
  simp only [Bool.and_eq_true, decide_eq_true_eq] at h
  omega
theorem okV_ofT {w : Wd} (h : okW w) (hp : (w.prog.getD []).length ≤ 20) : okV w := by
  refine ⟨by omega, fun f hf => ?_, by have := h.c; omega, by have := h.f; omega, fun c hc => okC_ofT (h.x c hc), by have := h.r; omega, fun r hr => ?_, by have := h.u; omega⟩
  · have := h.pz f hf; unfold okFu; omega
  · have := h.rb r hr; unfold okRi; omega
theorem sameW_selfT (w : Wd) : sameW w w = true := by unfold sameW samePn; simp
theorem tells_loop (k : Nat) (hk : k ≤ 64) (r : Ring) (hl : okRi r) (H : List Ob) (A C : D) (iA : IsS H 4 ((List.replicate k r).map encRing) A) (iC : IsS H 4 ((List.replicate k r).map encRing) C) {X : Type} (K : Ex × St → Option X) (Q : Option X → Prop) : ∀ (c i : Nat) (σ : Nat → D), i + c = k →
    σ 11 = A → σ 13 = C → σ 15 = I i →
    (∀ σ', (∀ j, j ≤ 10 → σ' j = σ j) → Q (K (.exit 0, ⟨σ', H, 140⟩))) →
    Q ((W Tryz.prog cfg (.loop (loopAt Tryz.f3 10)) ⟨σ, H, 140⟩).bind K) := by
  intro c
  induction c with
  | zero =>
    intro i σ hi s11 s13 s15 hK
    have h0 : decide (i < k) = false := df (by omega)
    have la : lenS A = some k := by rw [iA.len]; simp
    rw [Wloop]
    conv => arg 1; arg 1; arg 1; simp [loopAt, loopIn, headId, Tryz.f3, s11, s15, la, h0]
    exact hK _ (fun j hj => by
      have : ∀ n : Nat, 11 ≤ n → j ≠ n := fun n hn => by omega
      simp [upd, this])
  | succ c ih =>
    intro i σ hi s11 s13 s15 hK
    have hlt : decide (i < k) = true := dt (by omega)
    have la : lenS A = some k := by rw [iA.len]; simp
    have hw : IntKind.i64.wrap ((i : Int) + 1) = ((i + 1 : Nat) : Int) := wr (by omega) (by omega)
    obtain ⟨ia, va, ra, hA, ha, _, xa⟩ := iA.ix (t := 33) un33 sz54 (i := i) (by simp; omega)
    obtain ⟨ic, vc, rc, hC, hc, _, xc⟩ := iC.ix (t := 33) un33 sz54 (i := i) (by simp; omega)
    have ea := rep_elW (e := encRing) (x := r) (n := k) (i := i) (by omega) ra
    have ec := rep_elW (e := encRing) (x := r) (n := k) (i := i) (by omega) rc
    have hs := rsring_spec r r hl
    rw [dt rfl] at hs
    have exr : ∀ (h : List Ob) (b : Option (List Rf)), exp1 h (encL 2 encRf b) = some (encL 2 encRf b) := fun h z => exp_clean (by simp) (by simp)
    generalize (List.replicate k r).map encRing ++ ra = LA at *
    generalize (List.replicate k r).map encRing ++ rc = LC at *
    have hd := dr3_12
    simp [opsAt, opsIn, Tryz.f3] at hd
    have w1 := Wdraw0 hd
    clear hd
    rw [Wloop]
    conv => arg 1; arg 1; arg 1; simp [loopAt, loopIn, headId, Tryz.f3, s11, s13, s15, la, hlt, xa, xc, ha, hc, ea, ec, hs, hw, exr, w1, -getElem?_pos]
    rw [Option.bind_some, loopK_normal]
    exact ih (i + 1) _ (by omega) (by simp [s11]) (by simp [s13]) (by simp) (fun σ' h => hK σ' (fun j hj => by
      rw [h j hj]
      have : ∀ n : Nat, 11 ≤ n → j ≠ n := fun n hn => by omega
      simp [upd, this]))
set_option maxHeartbeats 8000000 in
theorem tells13_law (p : Option (List Fu)) (hb : Bnd (p.getD [])) (hz : ∀ f ∈ p.getD [], f.c.length * 24 ≤ 2 ^ 47) (args : Option (List Vl)) (ha : (args.getD []).length < 2 ^ 47) (s n fu fm m : Int) (a b : Wd) (oka : okW a) (okb : okW b) :
    fnc Tryz.prog cfg R 3 [encSt p args s n fu fm m, encW a, encW b] = some (.bool true) := by
  have exf : ∀ (h : List Ob) (b : Option (List Fu)), exp1 h (encL 4 encFunc b) = some (encL 4 encFunc b) := fun h z => exp_clean (by simp) (by simp)
  have exv : ∀ (h : List Ob) (b : Option (List Vl)), exp1 h (encL 2 encV b) = some (encL 2 encV b) := fun h z => exp_clean (by simp) (by simp)
  have exc : ∀ (h : List Ob) (b : Option (List Ce)), exp1 h (encL 18 encCe b) = some (encL 18 encCe b) := fun h z => exp_clean (by simp) (by simp)
  have exi : ∀ (h : List Ob) (b : Option (List Int)), exp1 h (encL 1 I b) = some (encL 1 I b) := fun h z => exp_clean (by simp) (by simp)
  have exr : ∀ (h : List Ob) (b : Option (List Rf)), exp1 h (encL 2 encRf b) = some (encL 2 encRf b) := fun h z => exp_clean (by simp) (by simp)
  have exg : ∀ (h : List Ob) (b : Option (List Ring)), exp1 h (encL 4 encRing b) = some (encL 4 encRing b) := fun h z => exp_clean (by simp) (by simp)
  have hS := small_spec p 300
  have hSa := smallW_spec a (by have := oka.c; omega)
  have hSb := smallW_spec b (by have := okb.c; omega)
  obtain ⟨Q, hQ⟩ : ∃ Q : Option D → Prop, Q = fun o => o = some (.bool true) := ⟨_, rfl⟩
  rw [show (fnc Tryz.prog cfg R 3 [encSt p args s n fu fm m, encW a, encW b] = some (.bool true)) = Q (fnc Tryz.prog cfg R 3 [encSt p args s n fu fm m, encW a, encW b]) by rw [hQ]]
  rw [fnc_at rfl, body_eq Tryz.func3 rfl rfl]
  cases ks : small (p.getD []) 300 <;> rw [ks] at hS
  · rw [hQ]; simp [argsσ, Vm.results, fixed13, hS, exf]
  have hpl := small_len ks
  cases k40 : decide (40 < (args.getD []).length)
  case true =>
    have k40' : decide ((40 : Int) < ((args.getD []).length : Int)) = true := dt (by have := of_decide_eq_true k40; omega)
    rw [hQ]; simp [argsσ, Vm.results, fixed13, hS, k40, k40', exf]
  have k40' : decide ((40 : Int) < ((args.getD []).length : Int)) = false := df (by have := of_decide_eq_false k40; omega)
  cases ka : smallW a <;> rw [ka] at hSa
  · rw [hQ]; simp [argsσ, Vm.results, fixed13, hS, k40, k40', hSa, exf, exc, exi, exr, exg]
  cases kb : smallW b <;> rw [kb] at hSb
  · rw [hQ]; simp [argsσ, Vm.results, fixed13, hS, k40, k40', hSa, hSb, exf, exc, exi, exr, exg]
  obtain ⟨la1, la2, la3⟩ := smallW_lenT ka
  have Va := okV_ofT oka la3
  have Saa := sameW_spec a a Va
  rw [sameW_selfT] at Saa
  have Sab := sameW_spec a b Va
  have Rab := rsameW_spec a b Va
  have hbr : ∀ r ∈ a.rl, r.l.length < 2 ^ 62 := fun r hr => by have := oka.rb r hr; omega
  obtain ⟨o1, er1, ho1⟩ := ready_spec a (by omega) hbr (by have := oka.u; omega)
  obtain ⟨o2, er2, ho2⟩ := rready_spec a (by omega) (by have := oka.u; omega)
  have hrl := readyOf_len a.rl a.cl
  have rq := refs_selfT (ho1.trans ho2.symm) (by rw [ho1]; omega)
  -- the new worlds
  have nw : ∃ (w v : Wd) (e : Int), fnc Tryz.prog cfg R 11 [encProg p, encL 2 encV args, I s, I n, .agg [I fu, I fm, I m]] = some (.tup [encW w, I e]) ∧ fnc Tryz.prog cfg R 12 [encProg p, encL 2 encV args, I s, I n, .agg [I fu, I fm, I m]] = some (.tup [encW v, I e]) ∧ fnc Tryz.prog cfg R 17 [encW w, encW v] = some (.bool true) := by
    by_cases hok : NewOk (p.getD []) (args.getD []) s n fu fm m
    · obtain ⟨x, cs, fr, ri, cu, hx, hcs, hfr, hri, hcu, e1⟩ := wnew_ok p (by omega) args (by omega) s n fu fm m hok
      obtain ⟨y, cs', fr', ri', cu', hy, hcs', hfr', hri', hcu', e2⟩ := rwnew_ok p hb (by omega) args (by omega) s n fu fm m hok
      refine ⟨_, _, 0, e1, e2, ?_⟩
      obtain ⟨u1, u2, u3, u4⟩ := newF_up hx.symm
      have hxy : x.f = y.f := Option.some.inj (hx.trans hy.symm)
      have hn := hok.n
      have V : okV ⟨p, fu, fm, m, cs, fr, fm, ri, cu, ⟨0, 0⟩, 0, 0, o0, 0, 0, 0⟩ := by
        refine ⟨by show (p.getD []).length < _; omega, fun f hf => ?_, by show (cs.getD []).length < _; rw [hcs]; simp, by show (fr.getD []).length < _; rw [hfr]; simp, ?_, ?_, ?_, ?_⟩
        · have := hz f hf; unfold okFu; omega
        · show ∀ c ∈ cs.getD [], okC c
          rw [hcs]
          intro c hc
          rw [List.mem_singleton.1 hc]
          exact ⟨by show x.f.stack.length < _; rw [u2]; simp, by show x.f.locals.length < _; omega, by show x.f.slots.length < _; omega⟩
        · show (ri.getD []).length < _; rw [hri]; simp; omega
        · show ∀ r ∈ ri.getD [], okRi r
          rw [hri]
          intro r hr
          rw [(List.mem_replicate.1 hr).2]; show (newRing 1 m).l.length < _; unfold newRing Rn.Ring.l; simp
        · show (cu.getD []).length < _; rw [hcu]; simp; omega
      have hs := rsameW_spec _ ⟨p, fu, fm, m, cs', fr', fm, ri', cu', ⟨0, 0⟩, 0, 0, o0, 0, 0, 0⟩ V
      have hsw : sameW ⟨p, fu, fm, m, cs, fr, fm, ri, cu, ⟨0, 0⟩, 0, 0, o0, 0, 0, 0⟩ ⟨p, fu, fm, m, cs', fr', fm, ri', cu', ⟨0, 0⟩, 0, 0, o0, 0, 0, 0⟩ = true := by
        unfold sameW samePn pnW Wd.rl Wd.cl
        simp only [hcs, hcs', hfr, hfr', hri, hri', hcu, hcu', restK]
        simp [cellK, hxy]
      rw [hsw] at hs; exact hs
    · refine ⟨zW, zW, 1, wnew_no p (by omega) args (by omega) s n fu fm m hok, rwnew_no p hb (by omega) args (by omega) s n fu fm m hok, ?_⟩
      have V : okV zW := ⟨by decide, fun f hf => by simp [zW] at hf, by decide, by decide, fun c hc => by simp [zW] at hc, by decide, fun r hr => by simp [zW, Wd.rl] at hr, by decide⟩
      have hs := rsameW_spec zW zW V
      rw [sameW_selfT] at hs; exact hs
  obtain ⟨w, v, e, e1, e2, hwv⟩ := nw
  -- fresh workers
  have fw : ∃ (k : Nat) (A B C E : D) (H1 H2 : List Ob) (l : List Rf), k ≤ 64 ∧ body Tryz.prog R 13 [I n, .agg [I fu, I fm, I m]] [⟨0, 7, [encSt p args s n fu fm m], 0⟩, ⟨0, 19, [encW a], 0⟩, ⟨0, 19, [encW b], 0⟩, ⟨0, 19, [encW w], 0⟩, ⟨0, 19, [encW v], 0⟩] = some (.tup [A, B], H1) ∧ body Tryz.prog R 14 [I n, .agg [I fu, I fm, I m]] H1 = some (.tup [C, E], H2) ∧
      IsS H1 4 ((List.replicate k (newRing 1 m)).map encRing) A ∧ IsS H1 2 (l.map encRf) B ∧ IsS H2 4 ((List.replicate k (newRing 1 m)).map encRing) A ∧ IsS H2 4 ((List.replicate k (newRing 1 m)).map encRing) C ∧ IsS H2 2 (l.map encRf) B ∧ IsS H2 2 (l.map encRf) E ∧ l.length ≤ 64 ∧
      (∀ i, i < 5 → H1[i]? = ([⟨0, 7, [encSt p args s n fu fm m], 0⟩, ⟨0, 19, [encW a], 0⟩, ⟨0, 19, [encW b], 0⟩, ⟨0, 19, [encW w], 0⟩, ⟨0, 19, [encW v], 0⟩] : List Ob)[i]?) ∧ (∀ i, i < 5 → H2[i]? = ([⟨0, 7, [encSt p args s n fu fm m], 0⟩, ⟨0, 19, [encW a], 0⟩, ⟨0, 19, [encW b], 0⟩, ⟨0, 19, [encW w], 0⟩, ⟨0, 19, [encW v], 0⟩] : List Ob)[i]?) := by
    generalize hL : ([⟨0, 7, [encSt p args s n fu fm m], 0⟩, ⟨0, 19, [encW a], 0⟩, ⟨0, 19, [encW b], 0⟩, ⟨0, 19, [encW w], 0⟩, ⟨0, 19, [encW v], 0⟩] : List Ob) = L5
    have h5 : L5.length = 5 := by rw [← hL]; rfl
    by_cases hF : (1 ≤ n ∧ n ≤ 64) ∧ inb m 1 1024 = true
    · obtain ⟨⟨n1, n2⟩, hm⟩ := hF
      obtain ⟨k, rfl⟩ : ∃ k : Nat, n = k := ⟨n.toNat, by omega⟩
      obtain ⟨A, B, H1, eF, F, kp, l1⟩ := fresh_ok k (by omega) (by omega) fu fm m hm L5
      obtain ⟨C, E, H2, eG, G, kq, l2⟩ := rfresh_ok k (by omega) (by omega) fu fm m hm H1
      exact ⟨k, A, B, C, E, H1, H2, List.replicate k noR, by omega, eF, eG, F.a, F.b, F.a.keep fun i hi => kq i (F.a.lt hi), G.a, F.b.keep fun i hi => kq i (F.b.lt hi), G.b, by simp; omega, fun i hi => kp i (by omega), fun i hi => by rw [kq i (by omega), kp i (by omega)]⟩
    · have hF' : ¬ (1 ≤ n ∧ n ≤ 64) ∨ inb m 1 1024 = false := by
        by_cases h1 : 1 ≤ n ∧ n ≤ 64
        · right; cases hm : inb m 1 1024
          · rfl
          · exact absurd ⟨h1, hm⟩ hF
        · exact .inl h1
      obtain ⟨H1, eF, kp, l1⟩ := fresh_no n fu fm m hF' L5
      obtain ⟨C, E, H2, eG, iC, iE, kq, l2, _, _⟩ := rfresh_no n fu fm m hF' H1
      exact ⟨0, .snil, .snil, C, E, H1, H2, [], by omega, eF, eG, .inl ⟨rfl, rfl⟩, .inl ⟨rfl, rfl⟩, .inl ⟨rfl, rfl⟩, iC, .inl ⟨rfl, rfl⟩, iE, by simp, fun i hi => kp i (by omega), fun i hi => by rw [kq i (by omega), kp i (by omega)]⟩
  obtain ⟨k, A, B, C, E, H1, H2, l, hk, eF, eG, iA1, iB1, iA, iC, iB, iE, hl64, kp, kq⟩ := fw
  have f0 := kp 0 (by omega)
  have g0 := kq 0 (by omega); have g1 := kq 1 (by omega); have g2 := kq 2 (by omega); have g3 := kq 3 (by omega); have g4 := kq 4 (by omega)
  simp only [List.getElem?_cons_succ, List.getElem?_cons_zero] at f0 g0 g1 g2 g3 g4
  have lA : lenS A = some k := by rw [iA.len]; simp
  have lC : lenS C = some k := by rw [iC.len]; simp
  have nA := iA.one; have nB := iB.one; have nC := iC.one; have nE := iE.one
  obtain ⟨xB, yB⟩ := iB.expO (cl_rfs _)
  obtain ⟨xE, yE⟩ := iE.expO (cl_rfs _)
  have rq2 := refs_selfT (yB.trans yE.symm) (by rw [yB]; omega)
  generalize oS l B = oB at *
  generalize oS l E = oE at *
  have hlr : okRi (newRing 1 m) := by show (newRing 1 m).l.length < _; unfold newRing Rn.Ring.l; simp
  simp [argsσ, retK_flat, fixed13, hS, k40, k40', hSa, hSb, e1, e2, eF, eG, f0, lA, lC, nA, nB, nC, nE, xB, xE, rq2, exf, exv, exc, exi, exr, exg, Option.bind_assoc, -getElem?_pos]
  refine tells_loop k hk (newRing 1 m) hlr H2 A C iA iC _ Q k 0 _ (by omega) (by simp) (by simp) (by simp) ?_
  intro σ' hσ
  have t4 := hσ 4 (by omega); have t5 := hσ 5 (by omega); have t7 := hσ 7 (by omega); have t8 := hσ 8 (by omega); have t9 := hσ 9 (by omega); have t10 := hσ 10 (by omega)
  simp at t4 t5 t7 t8 t9 t10
  have hdr := dr3_14
  simp [opsAt, opsIn, Tryz.f3] at hdr
  have w1 := Wdraw0 hdr
  clear hdr
  have hbb : ∀ s t, binD Tryz.prog .eql 4 s t (.bool (sameW a b)) (.bool (sameW a b)) = some (.bool true) := fun s t => by rw [eqb_any, dt rfl]
  generalize sameW a b = B0 at *
  rw [hQ]
  simp [Vm.results, t4, t5, t7, t8, t9, t10, g1, g2, g3, g4, fixed13, hwv, er1, er2, rq, Sab, Rab, hbb, Saa, w1, exf, exv, exc, exi, exr, exg, -getElem?_pos]
end Go.Proofs.YtifmjomfoilnnaaGreatW.Rg
