/- The document: values, seeds. No conditions. -/
import Derived.Test.YtlpadffinfijgaaVmGA
import Derived.Test.YtlpadffinfijgaaVmGD
set_option linter.unusedVariables false
set_option linter.unusedSimpArgs false
namespace Go.Proofs.YtlpadffinfijgaaW.Rg
open Go.Proofs.YtlpadffinfijgaaW.Vm Go.Proofs.YtlpadffinfijgaaW.Md
open Go Go.Proofs
theorem rRest_spec (n : Int) : fnc Try.prog cfg R 28 [I n] = some (I (n % 251)) := by
  have h := Int.tmod_lt_of_pos n (show (0 : Int) < 251 by decide)
  have h2 : -251 < n.tmod 251 := by
    by_cases h0 : 0 ≤ n
    · have := Int.tmod_nonneg 251 h0; omega
    · have e : n.tmod 251 = -((-n).tmod 251) := by rw [Int.neg_tmod]; omega
      have := Int.tmod_lt_of_pos (-n) (show (0 : Int) < 251 by decide)
      omega
  have e := Int.tmod_add_mul_tdiv n 251
  have b1 := fun x y => bin_rem Try.prog 3 x y .i64 n 251 (by decide)
  rw [fnc_at rfl, body_eq Try.func28 rfl rfl]
  cases k : decide (n.tmod 251 < 0)
  · have e2 : n.tmod 251 = n % 251 := by have := of_decide_eq_false k; omega
    rw [e2] at b1 k
    simp [argsσ, Vm.results, b1, k]
  · have e2 : n.tmod 251 + 251 = n % 251 := by have := of_decide_eq_true k; omega
    have w : IntKind.i64.wrap (n.tmod 251 + 251) = n % 251 := by rw [wr (by omega) (by omega)]; exact e2
    simp [argsσ, Vm.results, b1, k, w]
theorem rOf_spec (a b : Int) : fnc Try.prog cfg R 27 [I a, I b] = some (encV (ofG a b)) := by
  rw [fnc_at rfl, body_eq Try.func27 rfl rfl]
  have h1 := rRest_spec a; have h2 := rRest_spec b
  simp [argsσ, Vm.results, h1, h2, ofG]
theorem rMay_spec (v : Vl) : fnc Try.prog cfg R 14 [encV v] = some (.bool v.may) := by
  unfold Vl.may
  rw [fnc_at rfl, body_eq Try.func14 rfl rfl]
  cases k1 : decide (0 ≤ v.re)
  · simp [argsσ, Vm.results, k1]
  cases k2 : decide (v.re < 251)
  · simp [argsσ, Vm.results, k1, k2]
  cases k3 : decide (0 ≤ v.im)
  · simp [argsσ, Vm.results, k1, k2, k3]
  simp [argsσ, Vm.results, k1, k2, k3]
theorem rAdd_spec (a b : Vl) : fnc Try.prog cfg R 16 [encV a, encV b] = some (encV (addG a b)) := by
  rw [fnc_at rfl, body_eq Try.func16 rfl rfl]
  have h1 := rRest_spec a.re; have h2 := rRest_spec a.im; have h3 := rRest_spec b.re; have h4 := rRest_spec b.im
  have r1 := rng a.re; have r2 := rng a.im; have r3 := rng b.re; have r4 := rng b.im
  have w1 : IntKind.i64.wrap (a.re % 251 + b.re % 251) = a.re % 251 + b.re % 251 := wr (by omega) (by omega)
  have w2 : IntKind.i64.wrap (a.im % 251 + b.im % 251) = a.im % 251 + b.im % 251 := wr (by omega) (by omega)
  have h5 := rOf_spec (a.re % 251 + b.re % 251) (a.im % 251 + b.im % 251)
  have hd := dr16_1
  simp [opsAt, opsIn, Try.f16] at hd
  have hdw := Wdraw hd
  clear hd
  simp [argsσ, Vm.results, h1, h2, h3, h4, w1, w2, h5, hdw, logL, loud, isE, drawChk, addG]
theorem rIs_spec (n : Int) : fnc Try.prog cfg R 13 [I n] = some (.bool (isS n)) := by
  rw [fnc_at rfl, body_eq Try.func13 rfl rfl]
  have e : isS n = (decide (0 ≤ n) && decide (n < 4294967296)) := by unfold isS; rw [Bool.eq_iff_iff]; simp; omega
  rw [e]
  cases k1 : decide (0 ≤ n) <;> simp [argsσ, Vm.results, k1]
theorem tmod_nat (a b : Nat) : Int.tmod (a : Int) (b : Int) = ((a % b : Nat) : Int) := by
  rw [Int.tmod_eq_emod_of_nonneg (by omega)]; omega
theorem times_spec (x g p q : Nat) (hx : x < 4294967296) (hg : g < 4294967296) (hp : g % 65536 = p) (hq : g / 65536 = q) : fnc Try.prog cfg R 45 [I x, I g] = some (I ((x * g % 4294967296 : Nat) : Int)) := by
  have hp2 : p < 65536 := by omega
  have hq2 : q < 65536 := by omega
  have b1 := fun x y => bin_rem Try.prog 3 x y .i64 (g : Int) 65536 (by decide)
  have b2 := fun x y => bin_quo Try.prog 3 x y .i64 (g : Int) 65536 (by decide)
  have e1 : (g : Int).tmod 65536 = (p : Nat) := by rw [show (65536 : Int) = ((65536 : Nat) : Int) from rfl, tmod_nat, hp]
  have e2 : IntKind.i64.wrap ((g : Int).tdiv 65536) = (q : Nat) := by
    rw [Int.tdiv_eq_ediv_of_nonneg (by omega), show (65536 : Int) = ((65536 : Nat) : Int) from rfl, ← Int.natCast_ediv, hq, wr (by omega) (by omega)]
  rw [e1] at b1
  rw [e2] at b2
  have m1 : x * p ≤ 4294967296 * 65536 := Nat.mul_le_mul (by omega) (by omega)
  have m2 : x * q ≤ 4294967296 * 65536 := Nat.mul_le_mul (by omega) (by omega)
  have hgg : x * g = x * p + x * q * 65536 := by
    have : g = p + q * 65536 := by omega
    rw [this, Nat.mul_add, Nat.mul_assoc]
  obtain ⟨A, hA⟩ : ∃ A : Int, (x : Int) * (p : Nat) = A := ⟨_, rfl⟩
  obtain ⟨B, hB⟩ : ∃ B : Int, (x : Int) * (q : Nat) = B := ⟨_, rfl⟩
  obtain ⟨C, hC⟩ : ∃ C : Nat, x * g = C := ⟨_, rfl⟩
  have eA : A = ((x * p : Nat) : Int) := by rw [← hA]; exact (Int.natCast_mul _ _).symm
  have eB : B = ((x * q : Nat) : Int) := by rw [← hB]; exact (Int.natCast_mul _ _).symm
  rw [hC] at hgg ⊢
  obtain ⟨a, ha⟩ : ∃ a : Nat, x * p = a := ⟨_, rfl⟩
  obtain ⟨b, hb⟩ : ∃ b : Nat, x * q = b := ⟨_, rfl⟩
  rw [ha] at eA m1 hgg
  rw [hb] at eB m2 hgg
  clear hC ha hb e1 e2
  have w1 : IntKind.i64.wrap A = A := wr (by omega) (by omega)
  have w2 : IntKind.i64.wrap B = B := wr (by omega) (by omega)
  have b3 := fun s t => bin_rem Try.prog 3 s t .i64 B 4294967296 (by decide)
  rw [Int.tmod_eq_emod_of_nonneg (by omega)] at b3
  have w3 : IntKind.i64.wrap (B % 4294967296 * 65536) = B % 4294967296 * 65536 := wr (by omega) (by omega)
  have w4 : IntKind.i64.wrap (A + B % 4294967296 * 65536) = A + B % 4294967296 * 65536 := wr (by omega) (by omega)
  have b4 := fun s t => bin_rem Try.prog 3 s t .i64 (A + B % 4294967296 * 65536) 4294967296 (by decide)
  rw [Int.tmod_eq_emod_of_nonneg (by omega)] at b4
  have e5 : (A + B % 4294967296 * 65536) % 4294967296 = ((C % 4294967296 : Nat) : Int) := by omega
  rw [e5] at b4
  obtain ⟨res, hres⟩ : ∃ r : Nat, C % 4294967296 = r := ⟨_, rfl⟩
  rw [hres] at b4 ⊢
  rw [fnc_at rfl, body_eq Try.func45 rfl rfl]
  simp [argsσ, Vm.results, b1, b2, hA, hB, w1, w2, b3, w3, w4, b4]
theorem q15 (x j : Nat) (y : Nat) (hx : x < 4294967296) (hy : x / 2 ^ j = y) : IntKind.i64.wrap ((x : Int).tdiv ((2 ^ j : Nat) : Int)) = (y : Int) := by
  rw [Int.tdiv_eq_ediv_of_nonneg (by omega), ← Int.natCast_ediv, hy]
  have := Nat.div_le_self x (2 ^ j)
  rw [wr (by omega) (by omega)]
theorem xor64 (x j : Nat) (h : x < 4294967296) : Go.bits .xor .i64 (x : Int) ((x / 2 ^ j : Nat) : Int) = ((fold j x : Nat) : Int) := by
  rw [xor_i64 _ _ h (Nat.lt_of_le_of_lt (Nat.div_le_self _ _) h)]; rfl
theorem rMix_spec (s n : Int) : fnc Try.prog cfg R 29 [I s, I n] = some (I (mixI s n)) := by
  have h1 := rIs_spec s; have h2 := rIs_spec n
  rw [fnc_at rfl, body_eq Try.func29 rfl rfl]
  cases k1 : isS s
  · have e : mixI s n = 0 := by unfold mixI; rw [k1]; rfl
    rw [e]
    rw [k1] at h1; simp [argsσ, Vm.results, h1]
  cases k2 : isS n
  · have e : mixI s n = 0 := by unfold mixI; rw [k1, k2]; rfl
    rw [e]
    rw [k1] at h1; rw [k2] at h2; simp [argsσ, Vm.results, h1, h2]
  rw [k1] at h1; rw [k2] at h2
  obtain ⟨a, rfl, ha⟩ := isS_true k1
  obtain ⟨b, rfl, hb⟩ := isS_true k2
  rw [mixI_nat ha hb]
  have w1 : IntKind.i64.wrap ((b : Int) + 1) = ((b + 1 : Nat) : Int) := by rw [wr (by omega) (by omega)]; rfl
  have b1 := fun x y => bin_rem Try.prog 3 x y .i64 ((b + 1 : Nat) : Int) 4294967296 (by decide)
  rw [show (4294967296 : Int) = ((4294967296 : Nat) : Int) from rfl, tmod_nat] at b1
  have t1 := times_spec ((b + 1) % 4294967296) 2654435761 31153 40503 (Nat.mod_lt _ (by decide)) (by decide) (by decide) (by decide)
  rw [show (b + 1) % 4294967296 * 2654435761 % 4294967296 = G b from rfl] at t1
  have hm : mix a b = fold 13 (M (fold 15 (M (fold 15 (a ^^^ G b))))) := rfl
  rw [hm]
  have hx := xor_i64 a (G b) ha (G_lt b)
  have l0 := xor_lt a (G b) ha (G_lt b)
  generalize (b + 1) % 4294967296 = b' at *
  generalize G b = g at *
  generalize a ^^^ g = x0 at *
  have f0 := fold_lt 15 x0 l0
  have t2 := times_spec (fold 15 x0) 2246822507 51819 34283 f0 (by decide) (by decide) (by decide)
  rw [show fold 15 x0 * 2246822507 % 4294967296 = M (fold 15 x0) from rfl] at t2
  have l1 := M_lt (fold 15 x0)
  have c0 := fun s t => bin_quo Try.prog 3 s t .i64 (x0 : Int) 32768 (by decide)
  rw [show (32768 : Int) = ((2 ^ 15 : Nat) : Int) from rfl, q15 x0 15 _ l0 rfl] at c0
  have d0 := xor64 x0 15 l0
  generalize x0 / 2 ^ 15 = y0 at *
  generalize fold 15 x0 = z0 at *
  generalize M z0 = x1 at *
  have f1 := fold_lt 15 x1 l1
  have t3 := times_spec (fold 15 x1) 2246822507 51819 34283 f1 (by decide) (by decide) (by decide)
  rw [show fold 15 x1 * 2246822507 % 4294967296 = M (fold 15 x1) from rfl] at t3
  have l2 := M_lt (fold 15 x1)
  have c1 := fun s t => bin_quo Try.prog 3 s t .i64 (x1 : Int) 32768 (by decide)
  rw [show (32768 : Int) = ((2 ^ 15 : Nat) : Int) from rfl, q15 x1 15 _ l1 rfl] at c1
  have d1 := xor64 x1 15 l1
  generalize x1 / 2 ^ 15 = y1 at *
  generalize fold 15 x1 = z1 at *
  generalize M z1 = x2 at *
  have c2 := fun s t => bin_quo Try.prog 3 s t .i64 (x2 : Int) 8192 (by decide)
  rw [show (8192 : Int) = ((2 ^ 13 : Nat) : Int) from rfl, q15 x2 13 _ l2 rfl] at c2
  have d2 := xor64 x2 13 l2
  generalize x2 / 2 ^ 13 = y2 at *
  generalize fold 13 x2 = z2 at *
  have p1 : ((4294967296 : Nat) : Int) = 4294967296 := rfl
  have p2 : ((2 ^ 15 : Nat) : Int) = 32768 := rfl
  have p3 : ((2 ^ 13 : Nat) : Int) = 8192 := rfl
  have p4 : ((2654435761 : Nat) : Int) = 2654435761 := rfl
  have p5 : ((2246822507 : Nat) : Int) = 2246822507 := rfl
  rw [p1] at b1
  rw [p2] at c0 c1
  rw [p3] at c2
  rw [p4] at t1
  rw [p5] at t2 t3
  have b1' : ∀ x y, binD Try.prog .rem 3 x y (.int .i64 ((b : Int) + 1)) (.int .i64 4294967296) = some (.int .i64 (b' : Int)) := fun x y => b1 x y
  have w1' : IntKind.i64.wrap ((b : Int) + 1) = (b : Int) + 1 := w1
  simp [argsσ, Vm.results, h1, h2, w1', b1', t1, bin_xor, hx, c0, d0, t2, c1, d1, t3, c2, d2]
theorem rChild_spec (s k : Int) : fnc Try.prog cfg R 20 [I s, I k] = some (I (childI s k)) := by
  have h1 := rIs_spec s; have h2 := rIs_spec k
  have h3 := rMix_spec s 1; have h4 := rMix_spec (mixI s 1) k
  rw [fnc_at rfl, body_eq Try.func20 rfl rfl]
  cases k1 : isS s
  · have e : childI s k = 0 := by unfold childI; rw [k1]; rfl
    rw [e]
    rw [k1] at h1; simp [argsσ, Vm.results, h1]
  cases k2 : isS k
  · have e : childI s k = 0 := by unfold childI; rw [k1, k2]; rfl
    rw [e]
    rw [k1] at h1; rw [k2] at h2; simp [argsσ, Vm.results, h1, h2]
  rw [k1] at h1; rw [k2] at h2
  obtain ⟨a, rfl, ha⟩ := isS_true k1
  obtain ⟨b, rfl, hb⟩ := isS_true k2
  have e := mixI_mix ha (show 1 < 4294967296 by decide) hb
  rw [show ((1 : Nat) : Int) = 1 from rfl] at e
  rw [e] at h4
  rw [childI_nat ha hb]
  generalize mix (mix a 1) b = m at *
  generalize mixI a 1 = m1 at *
  simp [argsσ, Vm.results, h1, h2, h3, h4]
theorem rDraw_spec (s k : Int) : fnc Try.prog cfg R 18 [I s, I k] = some (encV (drawV s k)) := by
  rw [show drawV s k = drawS s k from rfl]
  have h1 := rIs_spec s; have h2 := rIs_spec k
  have h3 := rMix_spec s 2; have h4 := rMix_spec (mixI s 2) k
  rw [fnc_at rfl, body_eq Try.func18 rfl rfl]
  cases k1 : isS s
  · have e : drawS s k = ⟨0, 0⟩ := by unfold drawS drawI; rw [k1]; rfl
    rw [e]
    rw [k1] at h1; simp [argsσ, Vm.results, h1]
  cases k2 : isS k
  · have e : drawS s k = ⟨0, 0⟩ := by unfold drawS drawI; rw [k1, k2]; rfl
    rw [e]
    rw [k1] at h1; rw [k2] at h2; simp [argsσ, Vm.results, h1, h2]
  rw [k1] at h1; rw [k2] at h2
  obtain ⟨a, rfl, ha⟩ := isS_true k1
  obtain ⟨b, rfl, hb⟩ := isS_true k2
  have e := mixI_mix ha (show 2 < 4294967296 by decide) hb
  rw [show ((2 : Nat) : Int) = 2 from rfl] at e
  rw [e] at h4
  rw [drawS_nat ha hb]
  have hl := mix_lt (mix a 2) b
  generalize mix (mix a 2) b = m at *
  generalize mixI a 2 = m1 at *
  have c2 := fun s t => bin_quo Try.prog 3 s t .i64 (m : Int) 65536 (by decide)
  rw [show (65536 : Int) = ((2 ^ 16 : Nat) : Int) from rfl, q15 m 16 _ hl rfl] at c2
  have h5 := rOf_spec m ((m : Int) / 65536)
  have e2 : ((m / 2 ^ 16 : Nat) : Int) = (m : Int) / 65536 := by omega
  rw [e2, show ((2 ^ 16 : Nat) : Int) = 65536 from rfl] at c2
  simp [argsσ, Vm.results, h1, h2, h3, h4, c2, h5]
/-! fields -/
end Go.Proofs.YtlpadffinfijgaaW.Rg
