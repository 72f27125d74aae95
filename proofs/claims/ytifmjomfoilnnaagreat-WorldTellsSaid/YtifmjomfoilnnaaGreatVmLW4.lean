/- WorldNew. No conditions. -/
import Derived.Test.YtifmjomfoilnnaaGreatVmW4
import Derived.Test.YtifmjomfoilnnaaGreatVmFx13
set_option linter.unusedVariables false
set_option linter.unusedSimpArgs false
set_option maxRecDepth 10000
namespace Go.Proofs.YtifmjomfoilnnaaGreatW.Rg
open Go.Proofs.YtifmjomfoilnnaaGreatW.Vm Go.Proofs.YtifmjomfoilnnaaGreatW.Md
open Go.Proofs.YtifmjomfoilnnaaGreatW.Rn (Ring encRing newRing noRing inb)
open Go Go.Proofs
@[reducible] def encSt (p : Option (List Fu)) (args : Option (List Vl)) (s n fu fm m : Int) : D := .agg [encProg p, encL 2 encV args, I s, I n, I fu, I fm, I m]
theorem dec_start {k : Nat} {ds : List D} (h : HasT Tryz.prog (k + 6) 28 ds) : ∃ (p : Option (List Fu)) (args : Option (List Vl)) (s n fu fm m : Int), toD Tryz.prog 28 ds = encSt p args s n fu fm m ∧ Bnd (p.getD []) ∧ (∀ f ∈ p.getD [], f.c.length * 24 ≤ 2 ^ 47) ∧ (args.getD []).length < 2 ^ 47 := by
  unfold HasT at h; rw [Tryz.underlying28] at h
  obtain ⟨a1, _, rfl, h1, a2, _, rfl, h2, a3, _, rfl, h3, a4, _, rfl, h4, a5, _, rfl, h5, rfl⟩ := h
  obtain ⟨p, rfl, pb, pz⟩ := dec_prog2 (k := k) h1
  obtain ⟨args, rfl, la⟩ := dec_vals (k := k + 2) h2
  obtain ⟨s, rfl, _⟩ := dec_int (k := k + 4) h3
  obtain ⟨n, rfl, _⟩ := dec_int (k := k + 4) h4
  obtain ⟨l1, l2, l3, rfl⟩ := dec_lims (k := k + 3) h5
  exact ⟨p, args, s, n, l1, l2, l3, by unfold toD; rw [Tryz.underlying28]; rfl, pb, pz, la⟩
theorem small_len {p : List Fu} {m : Int} (h : small p m = true) : p.length ≤ 20 := by
  unfold small at h; simp only [Bool.and_eq_true, decide_eq_true_eq] at h; exact h.1
theorem rxsameW {x y : Fx} (h : okX x) : fnc Tryz.prog cfg R 27 [encX x, encX y] = some (.bool (decide (x.f = y.f))) := rxsame_spec x y ⟨by have := h.1; omega, by have := h.2.1; omega, by have := h.2.2; omega⟩
theorem ready_new (r : Ring) (hr : itemsO r = []) : ∀ n : Nat, readyOf (List.replicate n r) (List.replicate n noR) = []
  | 0 => rfl
  | n + 1 => by
    rw [List.replicate_succ, List.replicate_succ, readyOf, if_pos rfl, hr, ready_new r hr n]; rfl
theorem ready_new0 (r : Ring) (hr : itemsO r = []) (n : Nat) (h : 1 ≤ n) : readyOf (List.replicate n r) ((List.replicate n noR).set 0 ⟨0, 0⟩) = [⟨0, 0⟩] := by
  obtain ⟨k, rfl⟩ : ∃ k, n = k + 1 := ⟨n - 1, by omega⟩
  rw [List.replicate_succ, List.replicate_succ, List.set_cons_zero, readyOf, if_neg (by decide), hr, ready_new r hr k]; rfl
theorem newF_up {p : List Fu} {args : List Vl} {s : Int} {f : Fr} (h : newF p 0 args s = some f) : f.up = noK ∧ f.stack = [] ∧ f.locals.length ≤ 2 ^ 40 ∧ f.slots.length ≤ 2 ^ 40 := by
  unfold newF at h
  split at h
  · rename_i hc
    split at h
    · cases h
    · rename_i y hy
      split at h
      · rename_i hz
        have hf := Option.some.inj h
        have hfm := mayP_f hc.1 (List.mem_of_getElem? hy)
        have hh := fmay_head hfm
        rw [← hf]
        refine ⟨rfl, rfl, ?_, ?_⟩
        · simp; omega
        · simp; omega
      · cases h
  · cases h
theorem items_new {m : Int} (h : inb m 1 1024 = true) : itemsO (newRing 1 m) = [] ∧ Rn.may (newRing 1 m) = true := by
  have hb : 1 ≤ m ∧ m ≤ 1024 := by simp [inb] at h; omega
  have hm : Rn.may (newRing 1 m) = true := by
    unfold Rn.may newRing Rn.Ring.l
    simp [inb]; omega
  refine ⟨?_, hm⟩
  unfold itemsO
  rw [if_pos hm]
  rfl
theorem newlaw_loop (p : Option (List Fu)) (args : Option (List Vl)) (s fu fm m : Int) (k : Nat) (hk : k ≤ 64) (r : Ring) (w : Wd) (hm : fnc Tryz.prog cfg R 24 [encRing r] = some (.bool true)) (oi : Option (List Rf)) (hi : fnc Tryz.prog cfg R 23 [encRing r] = some (encL 2 encRf oi)) (hoi : (oi.getD []).length = 0) (hmo : r.most = m)
    (hri : w.rings.getD [] = List.replicate k r) (hcu : w.cur.getD [] = (List.replicate k noR).set 0 ⟨0, 0⟩) (H : List Ob) (g1 : H[0]? = some ⟨0, 7, [encSt p args s k fu fm m], 0⟩) (g3 : H[1]? = some ⟨0, 19, [encW w], 0⟩) {X : Type} (K : Ex × St → Option X) (Q : Option X → Prop) : ∀ (c i : Nat) (σ : Nat → D), i + c = k →
    σ 1 = .ptr 0 0 0 0 → σ 3 = .ptr 1 0 0 0 → σ 8 = I i →
    (∀ σ', σ' 1 = .ptr 0 0 0 0 → σ' 3 = .ptr 1 0 0 0 → σ' 5 = σ 5 → Q (K (.exit 0, ⟨σ', H, 246⟩))) →
    Q ((W Tryz.prog cfg (.loop (loopAt Tryz.f4 11)) ⟨σ, H, 246⟩).bind K) := by
  intro c
  induction c with
  | zero =>
    intro i σ hic s1 s3 s8 hK
    have h0 : decide (i < k) = false := df (by omega)
    rw [Wloop]
    conv => arg 1; arg 1; arg 1; simp [loopAt, loopIn, headId, Tryz.f4, s1, s8, g1, h0, -getElem?_pos]
    exact hK _ (by simp [s1]) (by simp [s3]) (by simp)
  | succ c ih =>
    intro i σ hic s1 s3 s8 hK
    have hlt : decide (i < k) = true := dt (by omega)
    have hrl : (w.rings.getD []).length = k := by rw [hri]; simp
    have hcl : (w.cur.getD []).length = k := by rw [hcu]; simp
    have hx : idxD k (I i) = some i := idxD_nat .i64 (by omega)
    have hgr : (w.rings.getD [])[i]? = some r := by rw [hri, List.getElem?_replicate, if_pos (by omega)]
    obtain ⟨x, hgx, hxn⟩ : ∃ x, (w.cur.getD [])[i]? = some x ∧ decide (x = noR) = decide (0 < i) := by
      rw [hcu]
      rcases Nat.eq_zero_or_pos i with rfl | hp
      · exact ⟨⟨0, 0⟩, List.getElem?_set_self (by simp; omega), by decide⟩
      · exact ⟨noR, by rw [List.getElem?_set_ne (by omega), List.getElem?_replicate, if_pos (by omega)], by rw [dt rfl, dt hp]⟩
    have hw : IntKind.i64.wrap ((i : Int) + 1) = ((i + 1 : Nat) : Int) := wr (by omega) (by omega)
    have nr := rnone_spec
    have nq := fun s t => eq_rf s t x noR
    have d1 : decide (r.most = m) = true := dt hmo
    have h0i : decide ((0 : Int) < (i : Int)) = decide (0 < i) := by rw [decide_eq_decide]; omega
    have hbq := fun s t b => neqb_any s t (decide (0 < i)) b
    rw [hxn] at nq
    have exr : ∀ (h : List Ob) (b : Option (List Rf)), exp1 h (encL 2 encRf b) = some (encL 2 encRf b) := fun h z => exp_clean (by simp) (by simp)
    have hdr := dr4_13
    simp [opsAt, opsIn, Tryz.f4] at hdr
    have w1 := Wdraw0 hdr
    clear hdr
    generalize noR = no' at *
    have hbb : ∀ s t, binD Tryz.prog .neq 4 s t (.bool (decide (0 < i))) (.bool (decide (0 < i))) = some (.bool false) := fun s t => by rw [neqb_any, dt rfl]; rfl
    generalize hb0 : decide (0 < i) = b0 at *
    rw [Wloop]
    conv => arg 1; arg 1; arg 1; simp [loopAt, loopIn, headId, Tryz.f4, s1, s3, s8, g1, g3, hlt, hrl, hcl, hx, hgr, hgx, hm, hi, hoi, d1, nr, nq, h0i, hbb, hw, exr, w1, -getElem?_pos, hb0, -Int.natCast_pos]
    rw [Option.bind_some, loopK_normal]
    exact ih (i + 1) _ (by omega) (by simp [s1]) (by simp [s3]) (by simp) (fun σ' t1 t3 t5 => hK σ' t1 t3 (by rw [t5]; simp))
set_option maxHeartbeats 8000000 in
theorem new13_law (p : Option (List Fu)) (hb : Bnd (p.getD [])) (hz : ∀ f ∈ p.getD [], f.c.length * 24 ≤ 2 ^ 47) (args : Option (List Vl)) (ha : (args.getD []).length < 2 ^ 47) (s n fu fm m : Int) :
    fnc Tryz.prog cfg R 4 [encSt p args s n fu fm m] = some (.bool true) := by
  have hS := small_spec p 300
  have exf : ∀ (h : List Ob) (b : Option (List Fu)), exp1 h (encL 4 encFunc b) = some (encL 4 encFunc b) := fun h z => exp_clean (by simp) (by simp)
  have exv : ∀ (h : List Ob) (b : Option (List Vl)), exp1 h (encL 2 encV b) = some (encL 2 encV b) := fun h z => exp_clean (by simp) (by simp)
  have exz : ∀ (h : List Ob) (b : Option (List Slt)), exp1 h (encL 6 encSlt b) = some (encL 6 encSlt b) := fun h z => exp_clean (by simp) (by simp)
  have exc : ∀ (h : List Ob) (b : Option (List Ce)), exp1 h (encL 18 encCe b) = some (encL 18 encCe b) := fun h z => exp_clean (by simp) (by simp)
  have exi : ∀ (h : List Ob) (b : Option (List Int)), exp1 h (encL 1 I b) = some (encL 1 I b) := fun h z => exp_clean (by simp) (by simp)
  have exr : ∀ (h : List Ob) (b : Option (List Rf)), exp1 h (encL 2 encRf b) = some (encL 2 encRf b) := fun h z => exp_clean (by simp) (by simp)
  have exg : ∀ (h : List Ob) (b : Option (List Ring)), exp1 h (encL 4 encRing b) = some (encL 4 encRing b) := fun h z => exp_clean (by simp) (by simp)
  obtain ⟨Q, hQ⟩ : ∃ Q : Option D → Prop, Q = fun o => o = some (.bool true) := ⟨_, rfl⟩
  rw [show (fnc Tryz.prog cfg R 4 [encSt p args s n fu fm m] = some (.bool true)) = Q (fnc Tryz.prog cfg R 4 [encSt p args s n fu fm m]) by rw [hQ]]
  rw [fnc_at rfl, body_eq Tryz.func4 rfl rfl]
  cases ks : small (p.getD []) 300 <;> rw [ks] at hS
  · rw [hQ]; simp [argsσ, Vm.results, fixed13, hS, exf]
  have hpl := small_len ks
  cases k40 : decide (40 < (args.getD []).length)
  case true =>
    have k40' : decide ((40 : Int) < ((args.getD []).length : Int)) = true := dt (by have := of_decide_eq_true k40; omega)
    rw [hQ]; simp [argsσ, Vm.results, fixed13, hS, k40, k40', exf]
  have k40' : decide ((40 : Int) < ((args.getD []).length : Int)) = false := df (by have := of_decide_eq_false k40; omega)
  obtain ⟨dF, e2, hdF⟩ := rnew_spec p hb (by omega) 0 args s (by omega)
  obtain ⟨xF, rfl, hxF⟩ := frame_of hdF
  have e3 := rgood_spec p hb
  by_cases hok : NewOk (p.getD []) (args.getD []) s n fu fm m
  case neg =>
    have e1 := wnew_no p (by omega) args (by omega) s n fu fm m hok
    have zw : encW zW = .agg [.snil, I 0, I 0, I 0, .snil, .snil, I 0, .snil, .snil, I 0, I 0, I 0, I 0, I 0, I 0, I 0, I 0, I 0, I 0] := rfl
    rw [zw] at e1
    rw [hQ]
    cases c0 : (newF (p.getD []) 0 (args.getD []) s).isSome <;> rw [c0] at e2
    · simp [argsσ, Vm.results, fixed13, hS, k40, k40', e1, e2, e3, exf, exv, exz]
    cases c1 : good (p.getD []) <;> rw [c1] at e3
    · simp [argsσ, Vm.results, fixed13, hS, k40, k40', e1, e2, e3, exf, exv, exz]
    cases c2 : decide (1 ≤ n)
    · simp [argsσ, Vm.results, fixed13, hS, k40, k40', e1, e2, e3, c2, exf, exv, exz]
    cases c3 : decide (n ≤ 64)
    · simp [argsσ, Vm.results, fixed13, hS, k40, k40', e1, e2, e3, c2, c3, exf, exv, exz]
    cases c4 : decide (1 ≤ fu)
    · simp [argsσ, Vm.results, fixed13, hS, k40, k40', e1, e2, e3, c2, c3, c4, exf, exv, exz]
    cases c5 : decide (fu ≤ 100000)
    · simp [argsσ, Vm.results, fixed13, hS, k40, k40', e1, e2, e3, c2, c3, c4, c5, exf, exv, exz]
    cases c6 : decide (1 ≤ fm)
    · simp [argsσ, Vm.results, fixed13, hS, k40, k40', e1, e2, e3, c2, c3, c4, c5, c6, exf, exv, exz]
    cases c7 : decide (fm ≤ 1024)
    · simp [argsσ, Vm.results, fixed13, hS, k40, k40', e1, e2, e3, c2, c3, c4, c5, c6, c7, exf, exv, exz]
    cases c8 : decide (1 ≤ m)
    · simp [argsσ, Vm.results, fixed13, hS, k40, k40', e1, e2, e3, c2, c3, c4, c5, c6, c7, c8, exf, exv, exz]
    cases c9 : decide (m ≤ 1024)
    · simp [argsσ, Vm.results, fixed13, hS, k40, k40', e1, e2, e3, c2, c3, c4, c5, c6, c7, c8, c9, exf, exv, exz]
    exfalso
    refine hok ⟨?_, c0, ⟨of_decide_eq_true c2, of_decide_eq_true c3⟩, ⟨of_decide_eq_true c4, of_decide_eq_true c5⟩, ⟨of_decide_eq_true c6, of_decide_eq_true c7⟩, ?_⟩
    · unfold good at c1; simpa using c1
    · have := of_decide_eq_true c8; have := of_decide_eq_true c9; simp [inb]; omega
  obtain ⟨x, cs, fr, ri, cu, hx, hcs, hfr, hri, hcu, e1⟩ := wnew_ok p (by omega) args (by omega) s n fu fm m hok
  rw [hok.f] at e2
  have hg : good (p.getD []) = true := by unfold good; rw [hok.g]; rfl
  rw [hg] at e3
  obtain ⟨it0, hmay⟩ := items_new hok.m
  have hxx : xF.f = x.f := by rw [hxF, ← hx]; rfl
  obtain ⟨u1, u2, u3, u4⟩ := newF_up hx.symm
  have okx : okX x := ⟨by rw [u2]; decide, by omega, by omega⟩
  have okxF : okX xF := ⟨by rw [hxx, u2]; decide, by rw [hxx]; omega, by rw [hxx]; omega⟩
  obtain ⟨k, rfl⟩ : ∃ k : Nat, n = k := ⟨n.toNat, by have := hok.n; omega⟩
  have hk1 : 1 ≤ k := by have := hok.n; omega
  have hk2 : k ≤ 64 := by have := hok.n; omega
  rw [Int.toNat_natCast] at hri hcu
  have hrm := Rn.rmay_spec (newRing 1 m)
  rw [hmay] at hrm
  obtain ⟨oi, hi1, hi2⟩ := ritems_spec (newRing 1 m)
  rw [it0] at hi2
  have hoi : (oi.getD []).length = 0 := by rw [hi2]; rfl
  have hlr : (newRing 1 m).l.length < 2 ^ 62 := by unfold newRing Rn.Ring.l; simp
  have hmo : (newRing 1 m).most = m := rfl
  obtain ⟨w, hw⟩ : ∃ w : Wd, w = ⟨p, fu, fm, m, cs, fr, fm, ri, cu, ⟨0, 0⟩, 0, 0, o0, 0, 0, 0⟩ := ⟨_, rfl⟩
  have hwr : w.rings.getD [] = List.replicate k (newRing 1 m) := by rw [hw]; exact hri
  have hwc : w.cur.getD [] = (List.replicate k noR).set 0 ⟨0, 0⟩ := by rw [hw]; exact hcu
  have rl : (ri.getD []).length = k := by rw [hri]; simp
  have cl : (cu.getD []).length = k := by rw [hcu]; simp
  obtain ⟨or', er, hor⟩ := ready_spec w (by show (w.rings.getD []).length ≤ _; rw [hwr]; simp; omega) (by
    intro r hr
    have hr' : r ∈ w.rings.getD [] := hr
    rw [hwr] at hr'
    rw [(List.mem_replicate.1 hr').2]; exact hlr) (by show (w.cur.getD []).length < _; rw [hwc]; simp; omega)
  have horl : (or'.getD []).length = 1 := by
    rw [hor]
    show (readyOf (w.rings.getD []) (w.cur.getD [])).length = 1
    rw [hwr, hwc, ready_new0 _ it0 k hk1]; rfl
  have hmp : mayPn ⟨cs.getD [], fr.getD [], fm⟩ = true := by
    rw [hcs, hfr]
    have h1 := hok.fm
    unfold mayPn headPn
    simp [freeOf, isortZ, genOk]
    omega
  have eg := rget_spec cs fr fm ⟨0, 0⟩ (by rw [hcs]; simp) (by rw [hfr]; simp)
  have hgt : getPn ⟨cs.getD [], fr.getD [], fm⟩ ⟨0, 0⟩ = some x := by
    unfold getPn
    rw [if_pos ⟨hmp, by rw [hcs]; rfl⟩, hcs]; rfl
  rw [hgt] at eg
  obtain ⟨oq, eq1, hoq⟩ := rrefs_spec cs fr fm (by rw [hcs]; simp) (by rw [hfr]; simp)
  have hql : (oq.getD []).length = 1 := by
    rw [hoq]
    unfold refsPn
    rw [if_pos hmp, hcs]; rfl
  have hsm := rxsameW (x := xF) (y := x) okxF
  rw [dt hxx] at hsm
  have hup : encRf x.f.up = encRf noR := by rw [u1]; rfl
  have hupq := fun s t => eq_rf s t x.f.up noR
  rw [dt (show x.f.up = noR by rw [u1]; rfl)] at hupq
  have hcu0 : (cu.getD [])[0]? = some ⟨0, 0⟩ := by rw [hcu]; exact List.getElem?_set_self (by simp; omega)
  have hx0 : idxD k (I 0) = some 0 := idxD_nat .i64 (show 0 < k by omega)
  have hr00 := fun s t => eq_rf s t ⟨0, 0⟩ ⟨0, 0⟩
  have hlq : ∀ s t, binD Tryz.prog .neq 26 s t (.agg [I fu, I fm, I m]) (.agg [I fu, I fm, I m]) = some (.bool false) := fun s t => by
    simp only [binD, scal, eqD, ft26, scalsEq, scalEq]
    simp
  have nr := rnone_spec
  have c2 : decide (1 ≤ k) = true := dt hk1
  have c2' : decide ((1 : Int) ≤ (k : Int)) = true := dt (by omega)
  have c3 : decide ((k : Int) ≤ 64) = true := dt (by omega)
  have c4 : decide (1 ≤ fu) = true := dt hok.fu.1
  have c5 : decide (fu ≤ 100000) = true := dt hok.fu.2
  have c6 : decide (1 ≤ fm) = true := dt hok.fm.1
  have c7 : decide (fm ≤ 1024) = true := dt hok.fm.2
  have hmb : 1 ≤ m ∧ m ≤ 1024 := by have := hok.m; simp [inb] at this; omega
  have c8 : decide (1 ≤ m) = true := dt hmb.1
  have c9 : decide (m ≤ 1024) = true := dt hmb.2
  simp [argsσ, fixed13, hS, k40, k40', e1, e2, e3, c2, c2', c3, c4, c5, c6, c7, c8, c9, rl, cl, hlq, o0, v0, exf, exv, exz, exc, exi, exr, exg, Option.bind_assoc, -getElem?_pos]
  refine newlaw_loop p args s fu fm m k hk2 (newRing 1 m) w hrm oi hi1 hoi hmo hwr hwc _ rfl (by rw [hw]; rfl) _ Q k 0 _ (by omega) (by simp) (by simp) (by simp) ?_
  intro σ' t1 t3 t5
  simp at t5
  rw [hQ]
  have hdr := dr4_16
  simp [opsAt, opsIn, Tryz.f4] at hdr
  have w1 := Wdraw0 hdr
  clear hdr
  rw [hw] at er
  have er' : fnc Tryz.prog cfg R 18 [.agg [encProg p, I fu, I fm, I m, encL 18 encCe cs, encL 1 I fr, I fm, encL 4 encRing ri, encL 2 encRf cu, I 0, I 0, I 0, I 0, I 0, I 0, I 0, I 0, I 0, I 0]] = some (encL 2 encRf or') := er
  generalize noR = no' at *
  simp [Vm.results, t1, t3, t5, eg, eq1, hql, er', horl, hsm, hcu0, cl, hx0, hr00, nr, hupq, o0, v0, w1, exf, exv, exz, exc, exi, exr, exg, -getElem?_pos]
end Go.Proofs.YtifmjomfoilnnaaGreatW.Rg
