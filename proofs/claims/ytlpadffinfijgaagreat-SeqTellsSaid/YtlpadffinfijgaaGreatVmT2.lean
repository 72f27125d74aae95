/- The document's seeds; fields; a frame in memory of its own. No conditions. -/
import Derived.Test.YtlpadffinfijgaaGreatVmT1
set_option linter.unusedVariables false
set_option linter.unusedSimpArgs false
namespace Go.Proofs.YtlpadffinfijgaaGreatW.Rg
open Go.Proofs.YtlpadffinfijgaaGreatW.Vm Go.Proofs.YtlpadffinfijgaaGreatW.Md
open Go Go.Proofs
theorem q15 (x j : Nat) (y : Nat) (hx : x < 4294967296) (hy : x / 2 ^ j = y) : IntKind.i64.wrap ((x : Int).tdiv ((2 ^ j : Nat) : Int)) = (y : Int) := by
  rw [Int.tdiv_eq_ediv_of_nonneg (by omega), ← Int.natCast_ediv, hy]
  have := Nat.div_le_self x (2 ^ j)
  rw [wr (by omega) (by omega)]
theorem xor64 (x j : Nat) (h : x < 4294967296) : Go.bits .xor .i64 (x : Int) ((x / 2 ^ j : Nat) : Int) = ((fold j x : Nat) : Int) := by
  rw [xor_i64 _ _ h (Nat.lt_of_le_of_lt (Nat.div_le_self _ _) h)]; rfl
theorem rMix_spec (s n : Int) : fnc Tryz.prog cfg R 122 [I s, I n] = some (I (mixI s n)) := by
  have h1 := rIs_spec s; have h2 := rIs_spec n
  rw [fnc_at rfl, body_eq Tryz.func122 rfl rfl]
  cases k1 : isS s
  · have e : mixI s n = 0 := by unfold mixI; rw [k1]; rfl
    rw [e]
    rw [k1] at h1; simp [argsσ, Vm.results, h1]
  cases k2 : isS n
  · have e : mixI s n = 0 := by unfold mixI; rw [k1, k2]; rfl
    rw [e]
    rw [k1] at h1; rw [k2] at h2; simp [argsσ, Vm.results, h1, h2]
  rw [k1] at h1; rw [k2] at h2
  obtain ⟨a, rfl, ha⟩ := isS_true k1
  obtain ⟨b, rfl, hb⟩ := isS_true k2
  rw [mixI_nat ha hb]
  have w1 : IntKind.i64.wrap ((b : Int) + 1) = ((b + 1 : Nat) : Int) := by rw [wr (by omega) (by omega)]; rfl
  have b1 := fun x y => bin_rem Tryz.prog 3 x y .i64 ((b + 1 : Nat) : Int) 4294967296 (by decide)
  rw [show (4294967296 : Int) = ((4294967296 : Nat) : Int) from rfl, tmod_nat] at b1
  have t1 := times_spec ((b + 1) % 4294967296) 2654435761 31153 40503 (Nat.mod_lt _ (by decide)) (by decide) (by decide) (by decide)
  rw [show (b + 1) % 4294967296 * 2654435761 % 4294967296 = G b from rfl] at t1
  have hm : mix a b = fold 13 (M (fold 15 (M (fold 15 (a ^^^ G b))))) := rfl
  rw [hm]
  have hx := xor_i64 a (G b) ha (G_lt b)
  have l0 := xor_lt a (G b) ha (G_lt b)
  generalize (b + 1) % 4294967296 = b' at *
  generalize G b = g at *
  generalize a ^^^ g = x0 at *
  have f0 := fold_lt 15 x0 l0
  have t2 := times_spec (fold 15 x0) 2246822507 51819 34283 f0 (by decide) (by decide) (by decide)
  rw [show fold 15 x0 * 2246822507 % 4294967296 = M (fold 15 x0) from rfl] at t2
  have l1 := M_lt (fold 15 x0)
  have c0 := fun s t => bin_quo Tryz.prog 3 s t .i64 (x0 : Int) 32768 (by decide)
  rw [show (32768 : Int) = ((2 ^ 15 : Nat) : Int) from rfl, q15 x0 15 _ l0 rfl] at c0
  have d0 := xor64 x0 15 l0
  generalize x0 / 2 ^ 15 = y0 at *
  generalize fold 15 x0 = z0 at *
  generalize M z0 = x1 at *
  have f1 := fold_lt 15 x1 l1
  have t3 := times_spec (fold 15 x1) 2246822507 51819 34283 f1 (by decide) (by decide) (by decide)
  rw [show fold 15 x1 * 2246822507 % 4294967296 = M (fold 15 x1) from rfl] at t3
  have l2 := M_lt (fold 15 x1)
  have c1 := fun s t => bin_quo Tryz.prog 3 s t .i64 (x1 : Int) 32768 (by decide)
  rw [show (32768 : Int) = ((2 ^ 15 : Nat) : Int) from rfl, q15 x1 15 _ l1 rfl] at c1
  have d1 := xor64 x1 15 l1
  generalize x1 / 2 ^ 15 = y1 at *
  generalize fold 15 x1 = z1 at *
  generalize M z1 = x2 at *
  have c2 := fun s t => bin_quo Tryz.prog 3 s t .i64 (x2 : Int) 8192 (by decide)
  rw [show (8192 : Int) = ((2 ^ 13 : Nat) : Int) from rfl, q15 x2 13 _ l2 rfl] at c2
  have d2 := xor64 x2 13 l2
  generalize x2 / 2 ^ 13 = y2 at *
  generalize fold 13 x2 = z2 at *
  have p1 : ((4294967296 : Nat) : Int) = 4294967296 := rfl
  have p2 : ((2 ^ 15 : Nat) : Int) = 32768 := rfl
  have p3 : ((2 ^ 13 : Nat) : Int) = 8192 := rfl
  have p4 : ((2654435761 : Nat) : Int) = 2654435761 := rfl
  have p5 : ((2246822507 : Nat) : Int) = 2246822507 := rfl
  rw [p1] at b1
  rw [p2] at c0 c1
  rw [p3] at c2
  rw [p4] at t1
  rw [p5] at t2 t3
  have b1' : ∀ x y, binD Tryz.prog .rem 3 x y (.int .i64 ((b : Int) + 1)) (.int .i64 4294967296) = some (.int .i64 (b' : Int)) := fun x y => b1 x y
  have w1' : IntKind.i64.wrap ((b : Int) + 1) = (b : Int) + 1 := w1
  simp [argsσ, Vm.results, h1, h2, w1', b1', t1, bin_xor, hx, c0, d0, t2, c1, d1, t3, c2, d2]
theorem rChild_spec (s k : Int) : fnc Tryz.prog cfg R 102 [I s, I k] = some (I (childI s k)) := by
  have h1 := rIs_spec s; have h2 := rIs_spec k
  have h3 := rMix_spec s 1; have h4 := rMix_spec (mixI s 1) k
  rw [fnc_at rfl, body_eq Tryz.func102 rfl rfl]
  cases k1 : isS s
  · have e : childI s k = 0 := by unfold childI; rw [k1]; rfl
    rw [e]
    rw [k1] at h1; simp [argsσ, Vm.results, h1]
  cases k2 : isS k
  · have e : childI s k = 0 := by unfold childI; rw [k1, k2]; rfl
    rw [e]
    rw [k1] at h1; rw [k2] at h2; simp [argsσ, Vm.results, h1, h2]
  rw [k1] at h1; rw [k2] at h2
  obtain ⟨a, rfl, ha⟩ := isS_true k1
  obtain ⟨b, rfl, hb⟩ := isS_true k2
  have e := mixI_mix ha (show 1 < 4294967296 by decide) hb
  rw [show ((1 : Nat) : Int) = 1 from rfl] at e
  rw [e] at h4
  rw [childI_nat ha hb]
  generalize mix (mix a 1) b = m at *
  generalize mixI a 1 = m1 at *
  simp [argsσ, Vm.results, h1, h2, h3, h4]
theorem rDraw_spec (s k : Int) : fnc Tryz.prog cfg R 109 [I s, I k] = some (encV (drawV s k)) := by
  rw [show drawV s k = drawS s k from rfl]
  have h1 := rIs_spec s; have h2 := rIs_spec k
  have h3 := rMix_spec s 2; have h4 := rMix_spec (mixI s 2) k
  rw [fnc_at rfl, body_eq Tryz.func109 rfl rfl]
  cases k1 : isS s
  · have e : drawS s k = ⟨0, 0⟩ := by unfold drawS drawI; rw [k1]; rfl
    rw [e]
    rw [k1] at h1; simp [argsσ, Vm.results, h1]
  cases k2 : isS k
  · have e : drawS s k = ⟨0, 0⟩ := by unfold drawS drawI; rw [k1, k2]; rfl
    rw [e]
    rw [k1] at h1; rw [k2] at h2; simp [argsσ, Vm.results, h1, h2]
  rw [k1] at h1; rw [k2] at h2
  obtain ⟨a, rfl, ha⟩ := isS_true k1
  obtain ⟨b, rfl, hb⟩ := isS_true k2
  have e := mixI_mix ha (show 2 < 4294967296 by decide) hb
  rw [show ((2 : Nat) : Int) = 2 from rfl] at e
  rw [e] at h4
  rw [drawS_nat ha hb]
  have hl := mix_lt (mix a 2) b
  generalize mix (mix a 2) b = m at *
  generalize mixI a 2 = m1 at *
  have c2 := fun s t => bin_quo Tryz.prog 3 s t .i64 (m : Int) 65536 (by decide)
  rw [show (65536 : Int) = ((2 ^ 16 : Nat) : Int) from rfl, q15 m 16 _ hl rfl] at c2
  have h5 := rOf_spec m ((m : Int) / 65536)
  have e2 : ((m / 2 ^ 16 : Nat) : Int) = (m : Int) / 65536 := by omega
  rw [e2, show ((2 ^ 16 : Nat) : Int) = 65536 from rfl] at c2
  simp [argsσ, Vm.results, h1, h2, h3, h4, c2, h5]
/-! fields -/
theorem rthere_spec (p : Option (List Fu)) (f : Fr) (a b : Option (List Vl)) (z : Option (List Slt)) (hb : b.getD [] = f.locals) (hz : z.getD [] = f.slots) (x : Instr) :
    fnc Tryz.prog cfg R 64 [encProg p, frC f (encL 2 encV a) (encL 2 encV b) (encL 6 encSlt z), encInstr x] = some (.bool (thereX (p.getD []) f x)) := by
  have hM := rmay6_spec x
  have m1 : (b.getD []).length = f.locals.length := by rw [hb]
  have m2 : (z.getD []).length = f.slots.length := by rw [hz]
  have t1 : decide (x.a < f.locals.length) = !decide ((f.locals.length : Int) ≤ x.a) := by rw [Bool.eq_iff_iff]; simp
  have t2 : decide (x.a < f.slots.length) = !decide ((f.slots.length : Int) ≤ x.a) := by rw [Bool.eq_iff_iff]; simp
  have t3 : decide (x.b < f.slots.length) = !decide ((f.slots.length : Int) ≤ x.b) := by rw [Bool.eq_iff_iff]; simp
  unfold thereX
  rw [fnc_at rfl, body_eq Tryz.func64 rfl rfl]
  by_cases o1 : x.op = 1
  · have k1 : decide (x.op = 1) = true := dt o1
    have k3 : decide (x.op = 14) = false := df (by omega)
    have k4 : decide (x.op = 13) = false := df (by omega)
    rw [if_pos (.inl o1), t1]
    cases hm : imay x <;> rw [hm] at hM <;> cases hc : decide ((f.locals.length : Int) ≤ x.a) <;> simp [argsσ, Vm.results, hM, k1, k3, k4, m1, hc]
  have k1 : decide (x.op = 1) = false := df o1
  by_cases o2 : x.op = 2
  · have k2 : decide (x.op = 2) = true := dt o2
    have k3 : decide (x.op = 14) = false := df (by omega)
    have k4 : decide (x.op = 13) = false := df (by omega)
    rw [if_pos (.inr o2), t1]
    cases hm : imay x <;> rw [hm] at hM <;> cases hc : decide ((f.locals.length : Int) ≤ x.a) <;> simp [argsσ, Vm.results, hM, k1, k2, k3, k4, m1, hc]
  have k2 : decide (x.op = 2) = false := df o2
  rw [if_neg (by omega)]
  by_cases o14 : x.op = 14
  · have k3 : decide (x.op = 14) = true := dt o14
    have k4 : decide (x.op = 13) = false := df (by omega)
    rw [if_pos o14, t2]
    cases hm : imay x <;> rw [hm] at hM <;> cases hc : decide ((f.slots.length : Int) ≤ x.a) <;> simp [argsσ, Vm.results, hM, k1, k2, k3, k4, m2, hc]
  have k3 : decide (x.op = 14) = false := df o14
  rw [if_neg o14]
  by_cases o13 : x.op = 13
  · have k4 : decide (x.op = 13) = true := dt o13
    rw [if_pos o13, t3]
    cases hm : imay x <;> rw [hm] at hM <;> cases hc : decide ((f.slots.length : Int) ≤ x.b) <;> simp [argsσ, Vm.results, hM, k1, k2, k3, k4, m2, hc]
  have k4 : decide (x.op = 13) = false := df o13
  rw [if_neg o13]
  cases hm : imay x <;> rw [hm] at hM <;> simp [argsσ, Vm.results, hM, k1, k2, k3, k4]
theorem rOff_spec (p : Option (List Fu)) (x : Instr) (ha : 0 ≤ x.a) (h13 : x.op = 13 → x.a < (p.getD []).length) : fnc Tryz.prog cfg R 66 [encProg p, encInstr x] = some (I (offP (p.getD []) x)) := by
  have hO := off_spec x.op
  rw [fnc_at rfl, body_eq Tryz.func66 rfl rfl]
  cases c1 : decide (x.op = 13)
  · have e : offP (p.getD []) x = off6 x.op := by unfold offP; rw [if_neg (of_decide_eq_false c1)]
    rw [e]
    simp [argsσ, Vm.results, c1, hO]
  · have h13' := of_decide_eq_true c1
    have h2 := h13 h13'
    obtain ⟨m, hm⟩ : ∃ m : Nat, x.a = m := ⟨x.a.toNat, by omega⟩
    have hlt2 : m < (p.getD []).length := by omega
    have hix := idxD_nat .i64 hlt2
    have hg : (p.getD [])[m]? = some (p.getD [])[m] := List.getElem?_eq_getElem hlt2
    have e : offP (p.getD []) x = ((p.getD [])[m]).arity := by unfold offP; rw [if_pos h13', hm]; simp [hg]
    rw [e]
    generalize (p.getD [])[m] = f2 at hg
    simp [argsσ, Vm.results, c1, hm, hix, hg]
end Go.Proofs.YtlpadffinfijgaaGreatW.Rg
