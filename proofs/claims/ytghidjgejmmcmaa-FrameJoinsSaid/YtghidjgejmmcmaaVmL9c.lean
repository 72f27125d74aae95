/- A frame that spawned, and is given that child's end, joins it. No conditions. -/
import Derived.Test.YtghidjgejmmcmaaVmL9b
import Derived.KernelRfl
set_option linter.unusedVariables false
set_option linter.unusedSimpArgs false
set_option maxRecDepth 100000
namespace Go.Proofs.YtghidjgejmmcmaaW.Rg
open Go.Proofs.YtghidjgejmmcmaaW.Vm Go.Proofs.YtghidjgejmmcmaaW.Md
open Go Go.Proofs
def pJ : Option (List Fu) := some [⟨1, 1, 1, some [⟨1, 0, 0⟩, ⟨13, 0, 0⟩, ⟨14, 0, 0⟩, ⟨14, 0, 0⟩, ⟨15, 0, 0⟩]⟩]
def tJ : ByteArray := ⟨#[102, 117, 110, 99, 32, 49, 32, 49, 32, 49, 10, 108, 111, 97, 100, 32, 48, 10, 115, 112, 97, 119, 110, 32, 48, 32, 48, 10, 106, 111, 105, 110, 32, 48, 10, 106, 111, 105, 110, 32, 48, 10, 114, 101, 116, 10]⟩
theorem ofJ_k : beqo (fnc Try.prog cfg (exec Try.prog cfg 200) 18 [.str tJ]) (some (encProg pJ)) = true := by decide +kernel
theorem ofJ : fnc Try.prog cfg R 18 [.str tJ] = some (encProg pJ) := eval_k 200 ofJ_k
def fJ0 (v : Vl) : Fr := ⟨0, 0, [], [v], [s0], 1, 0, 0, 0, 0, o0, noK, 0⟩
def fJ1 (v : Vl) : Fr := ⟨0, 1, [v], [v], [s0], 1, 0, 0, 0, 0, o0, noK, 0⟩
def fJ2 (v : Vl) : Fr := ⟨0, 2, [], [v], [⟨1, noK, o0⟩], 1, 1, 0, 0, 0, o0, noK, 0⟩
def fJ3 (v : Vl) : Fr := ⟨0, 2, [], [v], [⟨1, noK, o0⟩], 1, 1, 0, 1, 0, o0, noK, 0⟩
def fJ4 (v : Vl) (o : Ou) : Fr := ⟨0, 2, [], [v], [⟨2, noK, o⟩], 1, 1, 0, 0, 0, o0, noK, 0⟩
def fJ5 (v : Vl) (o : Ou) : Fr := ⟨0, 3, [o.v], [v], [s0], 1, 1, 0, 0, 0, o0, noK, 0⟩
def fJ6 (v : Vl) (k : Int) : Fr := ⟨0, 2, [], [v], [s0], 1, 1, 0, 2, 0, ⟨k, v0⟩, noK, 0⟩
def fJ7 (v : Vl) (o : Ou) : Fr := ⟨0, 3, [o.v], [v], [s0], 1, 1, 0, 2, 0, ⟨2, v0⟩, noK, 0⟩
theorem doJ0 (v : Vl) : doF (pJ.getD []) (fJ0 v) = (fJ1 v, acN 1) := by kernel_rfl
theorem doJ1 (v : Vl) : doF (pJ.getD []) (fJ1 v) = (fJ2 v, ⟨2, 0, 0, childI 1 0, [v]⟩) := by kernel_rfl
theorem doJ2 (v : Vl) : doF (pJ.getD []) (fJ2 v) = (fJ3 v, acN 3) := by kernel_rfl
theorem giveJ (v : Vl) (o : Ou) : giveF (fJ3 v) 0 o = (fJ4 v o, true) := by kernel_rfl
theorem doJ4 (v : Vl) (o : Ou) : doF (pJ.getD []) (fJ4 v o) = joinF (fJ4 v o) ⟨14, 0, 0⟩ := by kernel_rfl
theorem doJ5 (v : Vl) (o : Ou) : doF (pJ.getD []) (fJ5 v o) = (fJ7 v o, acN 4) := by kernel_rfl
theorem finJ6 (v : Vl) (k : Int) (h : k ≠ 0) : finF (fJ6 v k) = (⟨k, v0⟩, true) := by
  unfold finF
  rw [if_neg (by simp [fJ6, s0]), if_pos (by exact h)]
  rfl
theorem finJ7 (v : Vl) (o : Ou) : finF (fJ7 v o) = (⟨2, v0⟩, true) := by kernel_rfl
theorem doJ4a (v : Vl) (o : Ou) (h : o.trap ≠ 0) : doF (pJ.getD []) (fJ4 v o) = (fJ6 v o.trap, acN 4) := by
  rw [doJ4]
  unfold joinF
  have e : slotAt (fJ4 v o) 0 = ⟨2, noK, o⟩ := rfl
  simp only [e]
  rw [if_neg (by decide), if_neg (by decide), if_pos h]
  rfl
theorem doJ4b (v : Vl) (o : Ou) (h : o.trap = 0) : doF (pJ.getD []) (fJ4 v o) = (fJ5 v o, acN 1) := by
  rw [doJ4]
  unfold joinF
  have e : slotAt (fJ4 v o) 0 = ⟨2, noK, o⟩ := rfl
  simp only [e]
  rw [if_neg (by decide), if_neg (by decide), if_neg (by simp [h])]
  rfl
theorem newJ (v : Vl) : newF (pJ.getD []) 0 [v] 1 = if v.may = true then some (fJ0 v) else none := by
  have hm : mayP (pJ.getD []) = true := by decide
  have hg : (pJ.getD [])[(0 : Int).toNat]? = some ⟨1, 1, 1, some [⟨1, 0, 0⟩, ⟨13, 0, 0⟩, ⟨14, 0, 0⟩, ⟨14, 0, 0⟩, ⟨15, 0, 0⟩]⟩ := rfl
  unfold newF
  rw [if_pos ⟨hm, by decide, by decide, by decide⟩, hg]
  simp only [List.length_cons, List.length_nil, List.all_cons, List.all_nil, Bool.and_true]
  cases hv : v.may
  · rw [if_neg (by simp), if_neg (by simp)]
  · rw [if_pos ⟨by decide, by decide, rfl⟩, if_pos rfl]
    rfl
theorem doJs {f g : Fr} {c : Ac} (a b : Option (List Vl)) (z : Option (List Slt)) (h : doF (pJ.getD []) f = (g, c)) (ha : a.getD [] = f.stack) (hb : b.getD [] = f.locals) (hz : z.getD [] = f.slots) (h1 : f.stack.length ≤ 2 ^ 40) (h2 : f.locals.length ≤ 2 ^ 40) (h3 : f.slots.length ≤ 2 ^ 40) :
    ∃ a' b' z' k', fnc Try.prog cfg R 14 [encProg pJ, frC f (encL 2 encV a) (encL 2 encV b) (encL 6 encSlt z)] = some (.tup [frC g (encL 2 encV a') (encL 2 encV b') (encL 6 encSlt z'), encAc c (encL 2 encV k')]) ∧ a'.getD [] = g.stack ∧ b'.getD [] = g.locals ∧ z'.getD [] = g.slots ∧ k'.getD [] = c.args := by
  obtain ⟨d1, d2, e, ⟨a', b', z', rfl, q1, q2, q3⟩, ⟨k', rfl, q4⟩⟩ := Do_spec pJ f _ ⟨a, b, z, rfl, ha, hb, hz⟩ h1 h2 h3 (by intro g hg; simp [pJ] at hg; subst hg; decide) (by decide)
  rw [h] at e q1 q2 q3 q4
  exact ⟨a', b', z', k', e, q1, q2, q3, q4⟩
set_option maxHeartbeats 4000000 in
theorem joins9_law (v : Vl) (o : Ou) : fnc Try.prog cfg R 6 [encV v, encO o] = some (.bool true) := by
  have exz : ∀ (h : List Ob) (z : Option (List Slt)), exp1 h (encL 6 encSlt z) = some (encL 6 encSlt z) := fun h z => exp_clean (by simp) (by simp)
  have hof := ofJ
  simp only [tJ] at hof
  obtain ⟨d, eN, iN⟩ := new_spec pJ (by decide) 0 (some [v]) 1 (by simp)
  rw [show encL 2 encV (some [v]) = D.sl 2 [encV v] false from rfl] at eN
  rw [Option.getD_some, newJ] at eN iN
  rw [fnc_at rfl, body_eq Try.func6 rfl rfl]
  cases k1 : decide (o.trap < 0)
  case true =>
    obtain ⟨a0, b0, z0, rfl, _, _, _⟩ := iN
    cases hv : v.may <;> rw [hv] at eN <;> simp at eN <;> simp [argsσ, Vm.results, hof, eN, fixed9, k1]
  cases k2 : decide (255 < o.trap)
  case true =>
    obtain ⟨a0, b0, z0, rfl, _, _, _⟩ := iN
    cases hv : v.may <;> rw [hv] at eN <;> simp at eN <;> simp [argsσ, Vm.results, hof, eN, fixed9, k1, k2]
  cases hv : v.may
  · rw [hv] at eN iN
    obtain ⟨a0, b0, z0, rfl, _, _, _⟩ := iN
    simp at eN
    simp [argsσ, Vm.results, hof, eN, fixed9, k1, k2]
  rw [hv] at eN iN
  rw [if_pos rfl] at eN iN
  simp only [Option.getD_some, Option.isSome_some] at eN iN
  obtain ⟨a0, b0, z0, rfl, qa, qb, qz⟩ := iN
  obtain ⟨a1, b1, z1, c1, e1, q1, r1, t1, _⟩ := doJs a0 b0 z0 (doJ0 v) qa qb qz (by simp [fJ0]) (by simp [fJ0]) (by simp [fJ0])
  obtain ⟨a2, b2, z2, c2, e2, q2, r2, t2, _⟩ := doJs a1 b1 z1 (doJ1 v) q1 r1 t1 (by simp [fJ1]) (by simp [fJ1]) (by simp [fJ1])
  obtain ⟨a3, b3, z3, c3, e3, q3, r3, t3, _⟩ := doJs a2 b2 z2 (doJ2 v) q2 r2 t2 (by simp [fJ2]) (by simp [fJ2]) (by simp [fJ2])
  obtain ⟨d4, e4, a4, b4, z4, rfl, q4, r4, t4⟩ := give_spec (fJ3 v) a3 b3 z3 q3 r3 t3 0 o (by simp [fJ3]) (by simp [fJ3]) (by simp [fJ3])
  rw [giveJ] at e4 q4 r4 t4
  simp only at e4 q4 r4 t4
  have x0 : idxD 1 (D.int .i64 0) = some 0 := rfl
  have hd := dr6_17
  simp [opsAt, opsIn, Try.f6] at hd
  have hdw := Wdraw0 hd
  clear hd
  cases k3 : decide (o.trap = 0)
  · have m3 := of_decide_eq_false k3
    obtain ⟨a5, b5, z5, c5, e5, q5, r5, t5, _⟩ := doJs a4 b4 z4 (doJ4a v o m3) q4 r4 t4 (by simp [fJ4]) (by simp [fJ4]) (by simp [fJ4])
    have e6 := final_spec (fJ6 v o.trap) a5 b5 z5 t5 (by simp [fJ6])
    rw [finJ6 v o.trap m3] at e6
    have z5l : (z5.getD []).length = 1 := by rw [t5]; rfl
    have z5g : (z5.getD [])[0]? = some s0 := by rw [t5]; rfl
    have q := fun s t => eq_out s t (⟨o.trap, v0⟩ : Ou) ⟨o.trap, v0⟩
    rw [decide_eq_true (Eq.refl _)] at q
    have s1 : decide ((fJ3 v).state = 1) = true := rfl
    have s2 : decide ((fJ4 v o).state = 0) = true := rfl
    simp only [acN, encAc, show encO ⟨o.trap, v0⟩ = .agg [I o.trap, I 0, I 0] from rfl] at e1 e2 e3 e5 e6 q
    generalize fJ0 v = F0 at *
    generalize fJ1 v = F1 at *
    generalize fJ2 v = F2 at *
    generalize fJ3 v = F3 at *
    generalize fJ4 v o = F4 at *
    generalize fJ6 v o.trap = F6 at *
    simp [argsσ, Vm.results, exz, hof, eN, fixed9, k1, k2, k3, e1, e2, e3, e4, e5, e6, s1, s2, z5l, z5g, x0, s0, q, -getElem?_pos]
  · have m3 := of_decide_eq_true k3
    obtain ⟨a5, b5, z5, c5, e5, q5, r5, t5, _⟩ := doJs a4 b4 z4 (doJ4b v o m3) q4 r4 t4 (by simp [fJ4]) (by simp [fJ4]) (by simp [fJ4])
    obtain ⟨a6, b6, z6, c6, e6, q6, r6, t6, _⟩ := doJs a5 b5 z5 (doJ5 v o) q5 r5 t5 (by simp [fJ5]) (by simp [fJ5]) (by simp [fJ5])
    have e7 := final_spec (fJ7 v o) a6 b6 z6 t6 (by simp [fJ7])
    rw [finJ7 v o] at e7
    have z5l : (z5.getD []).length = 1 := by rw [t5]; rfl
    have z5g : (z5.getD [])[0]? = some s0 := by rw [t5]; rfl
    have a5l : (a5.getD []).length = 1 := by rw [q5]; rfl
    have a5g : (a5.getD [])[0]? = some o.v := by rw [q5]; rfl
    have q := fun s t => eq_out s t (⟨2, v0⟩ : Ou) ⟨2, v0⟩
    rw [decide_eq_true (Eq.refl _)] at q
    have qv := fun s t => eq_val s t o.v o.v
    rw [decide_eq_true (Eq.refl _)] at qv
    have s1 : decide ((fJ3 v).state = 1) = true := rfl
    have s2 : decide ((fJ4 v o).state = 0) = true := rfl
    simp only [acN, encAc, show encO ⟨2, v0⟩ = .agg [I 2, I 0, I 0] from rfl] at e1 e2 e3 e5 e6 e7 q
    generalize fJ0 v = F0 at *
    generalize fJ1 v = F1 at *
    generalize fJ2 v = F2 at *
    generalize fJ3 v = F3 at *
    generalize fJ4 v o = F4 at *
    generalize fJ5 v o = F5 at *
    generalize fJ7 v o = F7 at *
    simp [argsσ, Vm.results, exz, hof, eN, fixed9, k1, k2, k3, e1, e2, e3, e4, e5, e6, e7, s1, s2, z5l, z5g, a5l, a5g, x0, s0, q, qv, hdw, -getElem?_pos]
end Go.Proofs.YtghidjgejmmcmaaW.Rg
