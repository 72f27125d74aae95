/- The document: equal worlds. No conditions. -/
import Derived.Test.YtifmjomfoilnnaaGreatVmW7
set_option linter.unusedVariables false
set_option linter.unusedSimpArgs false
set_option maxRecDepth 10000
namespace Go.Proofs.YtifmjomfoilnnaaGreatW.Rg
open Go.Proofs.YtifmjomfoilnnaaGreatW.Vm Go.Proofs.YtifmjomfoilnnaaGreatW.Md
open Go.Proofs.YtifmjomfoilnnaaGreatW.Rn (Ring encRing newRing noRing inb)
open Go Go.Proofs
theorem rsame13_loop (a b : Wd) (hlen : a.rl.length = b.rl.length) (hs : a.rl.length < 2 ^ 62) (hA : ∀ r ∈ a.rl, okRi r) {X : Type} (K : Ex × St → Option X) (Q : Option X → Prop) : ∀ (m i : Nat) (σ : Nat → D), i + m = a.rl.length →
    σ 2 = .ptr 0 0 0 0 → σ 3 = .ptr 1 0 0 0 → σ 5 = I i →
    (∀ σ', (a.rl.drop i).map ringK = (b.rl.drop i).map ringK → σ' 2 = .ptr 0 0 0 0 → σ' 3 = .ptr 1 0 0 0 → Q (K (.exit 0, ⟨σ', [⟨0, 19, [encW a], 0⟩, ⟨0, 19, [encW b], 0⟩], 110⟩))) → (∀ σ', (a.rl.drop i).map ringK ≠ (b.rl.drop i).map ringK → σ' 4 = .bool false → Q (K (.ret, ⟨σ', [⟨0, 19, [encW a], 0⟩, ⟨0, 19, [encW b], 0⟩], 110⟩))) →
    Q ((W Tryz.prog cfg (.loop (loopAt Tryz.f17 4)) ⟨σ, [⟨0, 19, [encW a], 0⟩, ⟨0, 19, [encW b], 0⟩], 110⟩).bind K) := by
  have har : (a.rings.getD []).length = a.rl.length := rfl
  have hbr : (b.rings.getD []).length = b.rl.length := rfl
  intro m
  induction m with
  | zero =>
    intro i σ hi s2 s3 s5 hK hR
    have h0 : decide (i < a.rl.length) = false := df (by omega)
    rw [Wloop]
    conv => arg 1; arg 1; arg 1; simp [loopAt, loopIn, headId, Tryz.f17, s2, s3, s5, har, h0, -getElem?_pos]
    exact hK _ (by rw [List.drop_eq_nil_of_le (by omega), List.drop_eq_nil_of_le (by omega)]) (by simp [s2]) (by simp [s3])
  | succ m ih =>
    intro i σ hi s2 s3 s5 hK hR
    have ha : i < a.rl.length := by omega
    have hb : i < b.rl.length := by omega
    have hlt : decide (i < a.rl.length) = true := dt ha
    have xa : idxD a.rl.length (I i) = some i := idxD_nat .i64 ha
    have xb : idxD b.rl.length (I i) = some i := idxD_nat .i64 hb
    have ga : (a.rings.getD [])[i]? = some a.rl[i] := List.getElem?_eq_getElem ha
    have gb : (b.rings.getD [])[i]? = some b.rl[i] := List.getElem?_eq_getElem hb
    have hw : IntKind.i64.wrap ((i : Int) + 1) = ((i + 1 : Nat) : Int) := wr (by omega) (by omega)
    have hq := rsring_spec a.rl[i] b.rl[i] (hA _ (List.getElem_mem ha))
    have e0 : (a.rl.drop i).map ringK = ringK a.rl[i] :: (a.rl.drop (i + 1)).map ringK := by rw [List.drop_eq_getElem_cons ha, List.map_cons]
    have e1 : (b.rl.drop i).map ringK = ringK b.rl[i] :: (b.rl.drop (i + 1)).map ringK := by rw [List.drop_eq_getElem_cons hb, List.map_cons]
    rw [e0, e1] at hK hR
    clear e0 e1
    have exr : ∀ (h : List Ob) (b : Option (List Rf)), exp1 h (encL 2 encRf b) = some (encL 2 encRf b) := fun h z => exp_clean (by simp) (by simp)
    have hd := dr17_6
    simp [opsAt, opsIn, Tryz.f17] at hd
    have w1 := Wdraw0 hd
    clear hd
    cases k : decide (ringK a.rl[i] = ringK b.rl[i]) <;> rw [k] at hq
    · have hne := of_decide_eq_false k
      generalize a.rl[i] = u at *
      generalize b.rl[i] = v at *
      rw [Wloop]
      conv => arg 1; arg 1; arg 1; simp [loopAt, loopIn, headId, Tryz.f17, s2, s3, s5, har, hbr, hlt, xa, xb, ga, gb, hq, exr, w1, -getElem?_pos]
      exact hR _ (fun e => hne (List.cons.inj e).1) (by simp)
    · have e := of_decide_eq_true k
      generalize a.rl[i] = u at *
      generalize b.rl[i] = v at *
      rw [Wloop]
      conv => arg 1; arg 1; arg 1; simp [loopAt, loopIn, headId, Tryz.f17, s2, s3, s5, har, hbr, hlt, xa, xb, ga, gb, hq, hw, exr, w1, -getElem?_pos]
      rw [Option.bind_some, loopK_normal]
      exact ih (i + 1) _ (by omega) (by simp [s2]) (by simp [s3]) (by simp) (fun σ' h => hK σ' (by rw [e, h])) (fun σ' h => hR σ' (fun e2 => h (List.cons.inj e2).2))
theorem eq_lims (s t : Operand) (a b c x y z : Int) : binD Tryz.prog .eql 26 s t (.agg [I a, I b, I c]) (.agg [I x, I y, I z]) = some (.bool (decide (a = x ∧ b = y ∧ c = z))) := by
  simp only [binD, scal, eqD, ft26, scalsEq, scalEq]
  simp only [Option.map_some, if_true, Option.some.injEq, D.bool.injEq]
  rw [Bool.eq_iff_iff]
  simp
theorem restEq (a b : Wd) : decide (restK a = restK b) = (decide (a.fuel = b.fuel ∧ a.frames = b.frames ∧ a.room = b.room) && decide (a.root = b.root) && decide (a.used = b.used) && decide (a.state = b.state) && decide (a.out = b.out) && decide (a.err = b.err) && decide (a.steals = b.steals) && decide (a.misses = b.misses)) := by
  obtain ⟨_, f1, f2, f3, _, _, _, _, _, ⟨r1, r2⟩, u1, u2, ⟨t1, ⟨v1, v2⟩⟩, e1, e2, e3⟩ := a
  obtain ⟨_, g1, g2, g3, _, _, _, _, _, ⟨q1, q2⟩, w1, w2, ⟨x1, ⟨y1, y2⟩⟩, z1, z2, z3⟩ := b
  rw [Bool.eq_iff_iff]
  simp only [restK, Bool.and_eq_true, decide_eq_true_eq, List.cons.injEq, Rf.mk.injEq, Ou.mk.injEq, Vl.mk.injEq, and_true, and_assoc]
set_option maxHeartbeats 4000000 in
theorem rsameW_spec (a b : Wd) (h : okV a) : fnc Tryz.prog cfg R 17 [encW a, encW b] = some (.bool (sameW a b)) := by
  have har : (a.rings.getD []).length = a.rl.length := rfl
  have hbr : (b.rings.getD []).length = b.rl.length := rfl
  have e4 := rsame7_spec a.prog b.prog h.p h.pc
  have e5 := rpsame_spec a.cs b.cs a.fr b.fr a.pm b.pm h.c h.f h.x
  have e7 := refs_spec a.cur b.cur h.u
  have exv : ∀ (h : List Ob) (b : Option (List Fu)), exp1 h (encL 4 encFunc b) = some (encL 4 encFunc b) := fun h z => exp_clean (by simp) (by simp)
  have exc : ∀ (h : List Ob) (b : Option (List Ce)), exp1 h (encL 18 encCe b) = some (encL 18 encCe b) := fun h z => exp_clean (by simp) (by simp)
  have exi : ∀ (h : List Ob) (b : Option (List Int)), exp1 h (encL 1 I b) = some (encL 1 I b) := fun h z => exp_clean (by simp) (by simp)
  have exr : ∀ (h : List Ob) (b : Option (List Rf)), exp1 h (encL 2 encRf b) = some (encL 2 encRf b) := fun h z => exp_clean (by simp) (by simp)
  have r2 : decide (a.cur.getD [] = b.cur.getD []) = decide (a.cl = b.cl) := rfl
  have r3 : samePn ⟨a.cs.getD [], a.fr.getD [], a.pm⟩ ⟨b.cs.getD [], b.fr.getD [], b.pm⟩ = samePn (pnW a) (pnW b) := rfl
  rw [r2] at e7
  rw [r3] at e5
  unfold sameW
  rw [fnc_at rfl, body_eq Tryz.func17 rfl rfl]
  cases k0 : decide (a.rl.length = b.rl.length)
  · have e : decide (a.rl.map ringK = b.rl.map ringK) = false := df (fun h => (of_decide_eq_false k0) (by have := congrArg List.length h; simpa using this))
    have k0' : decide ((a.rl.length : Int) = (b.rl.length : Int)) = false := df (by have := of_decide_eq_false k0; omega)
    simp [argsσ, Vm.results, har, hbr, k0, k0', e]
  have k0' : decide ((a.rl.length : Int) = (b.rl.length : Int)) = true := dt (by have := of_decide_eq_true k0; omega)
  cases k5 : decide (a.cl = b.cl) <;> rw [k5] at e7
  · simp [argsσ, Vm.results, har, hbr, k0, k0', e7, exv, exc, exi, exr]
  cases k2 : decide ((a.prog.getD []).map funcK = (b.prog.getD []).map funcK) <;> rw [k2] at e4
  · simp [argsσ, Vm.results, har, hbr, k0, k0', e7, e4, exv, exc, exi, exr]
  cases k3 : samePn (pnW a) (pnW b) <;> rw [k3] at e5
  · simp [argsσ, Vm.results, har, hbr, k0, k0', e7, e4, e5, exv, exc, exi, exr]
  simp only [Bool.and_true]
  obtain ⟨Q, hQ⟩ : ∃ Q : Option D → Prop, Q = fun o => o = some (.bool (decide (restK a = restK b) && decide (a.rl.map ringK = b.rl.map ringK))) := ⟨_, rfl⟩
  rw [show ∀ v : Option D, (v = some (.bool (decide (restK a = restK b) && decide (a.rl.map ringK = b.rl.map ringK)))) = Q v from fun v => by rw [hQ]]
  simp [argsσ, har, hbr, k0, k0', e7, e4, e5, exv, exc, exi, exr, Option.bind_assoc]
  refine rsame13_loop a b (of_decide_eq_true k0) h.r h.rb _ Q a.rl.length 0 _ (by omega) (by simp) (by simp) (by simp) ?_ ?_
  · intro σ' hr t2 t3
    simp only [List.drop_zero] at hr
    rw [hQ, dt hr, Bool.and_true, restEq]
    have q1 := fun s t => eq_lims s t a.fuel a.frames a.room b.fuel b.frames b.room
    have q2 := fun s t => eq_rf s t a.root b.root
    have q5 := fun s t => eq_out s t a.out b.out
    cases c1 : decide (a.fuel = b.fuel ∧ a.frames = b.frames ∧ a.room = b.room) <;> simp only [c1] at q1
    · simp [Vm.results, t2, t3, q1]
    cases c2 : decide (a.root = b.root) <;> simp only [c2] at q2
    · simp [Vm.results, t2, t3, q1, q2]
    cases c3 : decide (a.used = b.used)
    · simp [Vm.results, t2, t3, q1, q2, c3]
    cases c4 : decide (a.state = b.state)
    · simp [Vm.results, t2, t3, q1, q2, c3, c4]
    cases c5 : decide (a.out = b.out) <;> simp only [c5] at q5
    · simp [Vm.results, t2, t3, q1, q2, c3, c4, q5]
    cases c6 : decide (a.err = b.err)
    · simp [Vm.results, t2, t3, q1, q2, c3, c4, q5, c6]
    cases c7 : decide (a.steals = b.steals)
    · simp [Vm.results, t2, t3, q1, q2, c3, c4, q5, c6, c7]
    simp [Vm.results, t2, t3, q1, q2, c3, c4, q5, c6, c7]
  · intro σ' hr t4
    simp only [List.drop_zero] at hr
    rw [hQ, df hr, Bool.and_false]
    simp [Vm.results, t4]
end Go.Proofs.YtifmjomfoilnnaaGreatW.Rg
