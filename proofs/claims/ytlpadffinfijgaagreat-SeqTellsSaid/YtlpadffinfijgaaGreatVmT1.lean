/- The document's values, seeds and draws. No conditions. -/
import Derived.Test.YtlpadffinfijgaaGreatVmGA
import Derived.Test.YtlpadffinfijgaaGreatVmGD
set_option linter.unusedVariables false
set_option linter.unusedSimpArgs false
namespace Go.Proofs.YtlpadffinfijgaaGreatW.Rg
open Go.Proofs.YtlpadffinfijgaaGreatW.Vm Go.Proofs.YtlpadffinfijgaaGreatW.Md
open Go Go.Proofs
theorem rRest_spec (n : Int) : fnc Tryz.prog cfg R 103 [I n] = some (I (n % 251)) := by
  have h := Int.tmod_lt_of_pos n (show (0 : Int) < 251 by decide)
  have h2 : -251 < n.tmod 251 := by
    by_cases h0 : 0 ≤ n
    · have := Int.tmod_nonneg 251 h0; omega
    · have e : n.tmod 251 = -((-n).tmod 251) := by rw [Int.neg_tmod]; omega
      have := Int.tmod_lt_of_pos (-n) (show (0 : Int) < 251 by decide)
      omega
  have e := Int.tmod_add_mul_tdiv n 251
  have b1 := fun x y => bin_rem Tryz.prog 3 x y .i64 n 251 (by decide)
  rw [fnc_at rfl, body_eq Tryz.func103 rfl rfl]
  cases k : decide (n.tmod 251 < 0)
  · have e2 : n.tmod 251 = n % 251 := by have := of_decide_eq_false k; omega
    rw [e2] at b1 k
    simp [argsσ, Vm.results, b1, k]
  · have e2 : n.tmod 251 + 251 = n % 251 := by have := of_decide_eq_true k; omega
    have w : IntKind.i64.wrap (n.tmod 251 + 251) = n % 251 := by rw [wr (by omega) (by omega)]; exact e2
    simp [argsσ, Vm.results, b1, k, w]
theorem rOf_spec (a b : Int) : fnc Tryz.prog cfg R 73 [I a, I b] = some (encV (ofG a b)) := by
  rw [fnc_at rfl, body_eq Tryz.func73 rfl rfl]
  have h1 := rRest_spec a; have h2 := rRest_spec b
  simp [argsσ, Vm.results, h1, h2, ofG]
theorem rMay_spec (v : Vl) : fnc Tryz.prog cfg R 31 [encV v] = some (.bool v.may) := by
  unfold Vl.may
  rw [fnc_at rfl, body_eq Tryz.func31 rfl rfl]
  cases k1 : decide (0 ≤ v.re)
  · simp [argsσ, Vm.results, k1]
  cases k2 : decide (v.re < 251)
  · simp [argsσ, Vm.results, k1, k2]
  cases k3 : decide (0 ≤ v.im)
  · simp [argsσ, Vm.results, k1, k2, k3]
  simp [argsσ, Vm.results, k1, k2, k3]
theorem rAdd_spec (a b : Vl) : fnc Tryz.prog cfg R 107 [encV a, encV b] = some (encV (addG a b)) := by
  rw [fnc_at rfl, body_eq Tryz.func107 rfl rfl]
  have h1 := rRest_spec a.re; have h2 := rRest_spec a.im; have h3 := rRest_spec b.re; have h4 := rRest_spec b.im
  have r1 := rng a.re; have r2 := rng a.im; have r3 := rng b.re; have r4 := rng b.im
  have w1 : IntKind.i64.wrap (a.re % 251 + b.re % 251) = a.re % 251 + b.re % 251 := wr (by omega) (by omega)
  have w2 : IntKind.i64.wrap (a.im % 251 + b.im % 251) = a.im % 251 + b.im % 251 := wr (by omega) (by omega)
  have h5 := rOf_spec (a.re % 251 + b.re % 251) (a.im % 251 + b.im % 251)
  have hd := dr107_1
  simp [opsAt, opsIn, Tryz.f107] at hd
  have hdw := Wdraw hd
  clear hd
  simp [argsσ, Vm.results, h1, h2, h3, h4, w1, w2, h5, hdw, logL, loud, isE, drawChk, addG]
theorem rSub_spec (a b : Vl) : fnc Tryz.prog cfg R 108 [encV a, encV b] = some (encV (subG a b)) := by
  rw [fnc_at rfl, body_eq Tryz.func108 rfl rfl]
  have h1 := rRest_spec a.re; have h2 := rRest_spec a.im; have h3 := rRest_spec b.re; have h4 := rRest_spec b.im
  have r1 := rng a.re; have r2 := rng a.im; have r3 := rng b.re; have r4 := rng b.im
  have w1 : IntKind.i64.wrap (a.re % 251 - b.re % 251) = a.re % 251 - b.re % 251 := wr (by omega) (by omega)
  have w2 : IntKind.i64.wrap (a.im % 251 - b.im % 251) = a.im % 251 - b.im % 251 := wr (by omega) (by omega)
  have h5 := rOf_spec (a.re % 251 - b.re % 251) (a.im % 251 - b.im % 251)
  have hd := dr108_1
  simp [opsAt, opsIn, Tryz.f108] at hd
  have hdw := Wdraw hd
  clear hd
  simp [argsσ, Vm.results, h1, h2, h3, h4, w1, w2, h5, hdw, logL, loud, isE, drawChk, subG]
theorem rMul_spec (a b : Vl) : fnc Tryz.prog cfg R 104 [encV a, encV b] = some (encV (mulG a b)) := by
  rw [fnc_at rfl, body_eq Tryz.func104 rfl rfl]
  have h1 := rOf_spec a.re a.im; have h2 := rOf_spec b.re b.im
  have r1 := rng a.re; have r2 := rng a.im; have r3 := rng b.re; have r4 := rng b.im
  have p1 := mul250 r1 r3; have p2 := mul250 r2 r4; have p3 := mul250 r1 r4; have p4 := mul250 r2 r3
  have w1 : IntKind.i64.wrap (a.re % 251 * (b.re % 251)) = a.re % 251 * (b.re % 251) := wr (by omega) (by omega)
  have w2 : IntKind.i64.wrap (a.im % 251 * (b.im % 251)) = a.im % 251 * (b.im % 251) := wr (by omega) (by omega)
  have w3 : IntKind.i64.wrap (a.re % 251 * (b.im % 251)) = a.re % 251 * (b.im % 251) := wr (by omega) (by omega)
  have w4 : IntKind.i64.wrap (a.im % 251 * (b.re % 251)) = a.im % 251 * (b.re % 251) := wr (by omega) (by omega)
  have w5 : IntKind.i64.wrap (a.re % 251 * (b.re % 251) - a.im % 251 * (b.im % 251)) = a.re % 251 * (b.re % 251) - a.im % 251 * (b.im % 251) := wr (by omega) (by omega)
  have w6 : IntKind.i64.wrap (a.re % 251 * (b.im % 251) + a.im % 251 * (b.re % 251)) = a.re % 251 * (b.im % 251) + a.im % 251 * (b.re % 251) := wr (by omega) (by omega)
  have h3 := rOf_spec (a.re % 251 * (b.re % 251) - a.im % 251 * (b.im % 251)) (a.re % 251 * (b.im % 251) + a.im % 251 * (b.re % 251))
  simp only [ofG] at h1 h2
  have hd := dr104_1
  simp [opsAt, opsIn, Tryz.f104] at hd
  have hdw := Wdraw hd
  clear hd
  simp [argsσ, Vm.results, h1, h2, h3, w1, w2, w3, w4, w5, w6, hdw, logL, loud, isE, drawChk, mulG]
theorem un_negi (k : IntKind) (n : Int) : pure1 Tryz.prog (Op.unary .neg (.int k n)) = some (.int k (k.wrap (0 - n))) := by
  simp [pure1, Op.unary, Op.intArith, semPure, pure, ofVal1]
theorem rConj_spec (a : Vl) : fnc Tryz.prog cfg R 105 [encV a] = some (encV (conjG a)) := by
  rw [fnc_at rfl, body_eq Tryz.func105 rfl rfl]
  have h1 := rRest_spec a.re; have h2 := rRest_spec a.im
  have r2 := rng a.im
  have w1 : IntKind.i64.wrap (0 - a.im % 251) = -(a.im % 251) := by rw [wr (by omega) (by omega)]; omega
  have hn := un_negi .i64 (a.im % 251)
  rw [w1] at hn
  have h5 := rOf_spec (a.re % 251) (-(a.im % 251))
  have hd := dr105_1
  simp [opsAt, opsIn, Tryz.f105] at hd
  have hdw := Wdraw hd
  clear hd
  simp [argsσ, Vm.results, h1, h2, op_un, hn, h5, hdw, logL, loud, isE, drawChk, conjG]
theorem inv_loop (n : Int) (hn : 0 ≤ n ∧ n < 251) {X : Type} (K : Ex × St → Option X) (Q : Option X → Prop) : ∀ (m : Nat) (k : Int) (σ : Nat → D), k + m = 251 → 1 ≤ k → σ 0 = I n → σ 3 = I k →
    (∀ σ', σ' 2 = I (invF m k n) → Q (K (.ret, ⟨σ', [], 14⟩))) → (∀ σ', invF m k n = 0 → Q (K (.exit 0, ⟨σ', [], 14⟩))) →
    Q ((W Tryz.prog cfg (.loop (loopAt Tryz.f106 2)) ⟨σ, [], 14⟩).bind K) := by
  intro m
  induction m with
  | zero =>
    intro k σ hk h1 s0 s3 hR hK
    have h0 : ¬ (k < 251) := by omega
    have d0 : decide (k < 251) = false := df h0
    rw [Wloop]
    conv => arg 1; arg 1; arg 1; simp [loopAt, loopIn, headId, Tryz.f106, s0, s3, d0]
    exact hK _ rfl
  | succ m ih =>
    intro k σ hk h1 s0 s3 hR hK
    have d0 : decide (k < 251) = true := dt (by omega)
    have p := mul250 hn (show 0 ≤ k ∧ k < 251 by omega)
    have w1 : IntKind.i64.wrap (n * k) = n * k := wr (by omega) (by omega)
    have w2 : IntKind.i64.wrap (k + 1) = k + 1 := wr (by omega) (by omega)
    have b1 := fun x y => bin_rem Tryz.prog 3 x y .i64 (n * k) 251 (by decide)
    rw [Int.tmod_eq_emod_of_nonneg p.1] at b1
    unfold invF at hR hK
    cases c : decide (n * k % 251 = 1)
    · rw [if_neg (of_decide_eq_false c)] at hR hK
      rw [Wloop]
      conv => arg 1; arg 1; arg 1; simp [loopAt, loopIn, headId, Tryz.f106, s0, s3, d0, w1, w2, b1, c]
      rw [Option.bind_some, loopK_normal]
      exact ih (k + 1) _ (by omega) (by omega) (by simp [s0]) (by simp) hR hK
    · rw [if_pos (of_decide_eq_true c)] at hR
      rw [Wloop]
      conv => arg 1; arg 1; arg 1; simp [loopAt, loopIn, headId, Tryz.f106, s0, s3, d0, w1, w2, b1, c]
      exact hR _ (by simp)
theorem inverse_spec (n : Int) (hn : 0 ≤ n ∧ n < 251) : fnc Tryz.prog cfg R 106 [I n] = some (I (invG n)) := by
  rw [fnc_at rfl, body_eq Tryz.func106 rfl rfl]
  simp [argsσ, Option.bind_assoc]
  refine inv_loop n hn _ (fun o => o = some _) 250 1 _ (by decide) (by decide) (by simp [argsσ]) (by simp) ?_ ?_
  · intro σ' h; simp [Vm.results, h, invG]
  · intro σ' h; simp [Vm.results, h, invG]
theorem invF_rng (n : Int) : ∀ (m : Nat) (k : Int), 0 ≤ k → 0 ≤ invF m k n ∧ invF m k n ≤ k + m
  | 0, k, h => by simp only [invF]; omega
  | m + 1, k, h => by
    unfold invF
    split
    · omega
    · have := invF_rng n m (k + 1) (by omega); omega
theorem rDiv_spec (a b : Vl) : fnc Tryz.prog cfg R 71 [encV a, encV b] = some (match divG a b with | some q => .tup [encV q, .bool true] | none => .tup [encV ⟨0, 0⟩, .bool false]) := by
  rw [fnc_at rfl, body_eq Tryz.func71 rfl rfl]
  have h1 := rOf_spec b.re b.im
  rw [show ofG b.re b.im = b.red from rfl] at h1
  have r1 : 0 ≤ b.red.re ∧ b.red.re < 251 := by unfold Vl.red ofG; simp only; omega
  have r2 : 0 ≤ b.red.im ∧ b.red.im < 251 := by unfold Vl.red ofG; simp only; omega
  have p1 := mul250 r1 r1; have p2 := mul250 r2 r2
  have w1 : IntKind.i64.wrap (b.red.re * b.red.re) = b.red.re * b.red.re := wr (by omega) (by omega)
  have w2 : IntKind.i64.wrap (b.red.im * b.red.im) = b.red.im * b.red.im := wr (by omega) (by omega)
  have w3 : IntKind.i64.wrap (b.red.re * b.red.re + b.red.im * b.red.im) = b.red.re * b.red.re + b.red.im * b.red.im := wr (by omega) (by omega)
  have h2 := rRest_spec (b.red.re * b.red.re + b.red.im * b.red.im)
  rw [show (b.red.re * b.red.re + b.red.im * b.red.im) % 251 = normG b.red from rfl] at h2
  have rn : 0 ≤ normG b.red ∧ normG b.red < 251 := by unfold normG; omega
  have h3 := rConj_spec b.red
  have h4 := rMul_spec a (conjG b.red)
  have h5 := inverse_spec _ rn
  have rx : 0 ≤ (mulG a (conjG b.red)).re ∧ (mulG a (conjG b.red)).re < 251 := by unfold mulG ofG; simp only; omega
  have ry : 0 ≤ (mulG a (conjG b.red)).im ∧ (mulG a (conjG b.red)).im < 251 := by unfold mulG ofG; simp only; omega
  unfold divG
  have ri : 0 ≤ invG (normG b.red) ∧ invG (normG b.red) ≤ 251 := invF_rng _ 250 1 (by decide)
  generalize hn : normG b.red = n at *
  generalize invG n = i at *
  generalize mulG a (conjG b.red) = x at *
  have hd := dr71_5
  simp [opsAt, opsIn, Tryz.f71] at hd
  have hdw := Wdraw hd
  clear hd
  cases k : decide (n = 0)
  · rw [if_neg (of_decide_eq_false k)]
    have q1 : 0 ≤ x.re * i ∧ x.re * i ≤ 250 * 251 := ⟨Int.mul_nonneg rx.1 ri.1, Int.mul_le_mul (by omega) ri.2 ri.1 (by decide)⟩
    have q2 : 0 ≤ x.im * i ∧ x.im * i ≤ 250 * 251 := ⟨Int.mul_nonneg ry.1 ri.1, Int.mul_le_mul (by omega) ri.2 ri.1 (by decide)⟩
    have w4 : IntKind.i64.wrap (x.re * i) = x.re * i := wr (by omega) (by omega)
    have w5 : IntKind.i64.wrap (x.im * i) = x.im * i := wr (by omega) (by omega)
    have h6 := rOf_spec (x.re * i) (x.im * i)
    simp [argsσ, Vm.results, h1, w1, w2, w3, h2, k, hdw, h3, h4, h5, w4, w5, h6, logL, loud, isE, drawChk]
  · rw [if_pos (of_decide_eq_true k)]
    simp [argsσ, Vm.results, h1, w1, w2, w3, h2, k]
/-! seeds -/
theorem rIs_spec (n : Int) : fnc Tryz.prog cfg R 30 [I n] = some (.bool (isS n)) := by
  rw [fnc_at rfl, body_eq Tryz.func30 rfl rfl]
  have e : isS n = (decide (0 ≤ n) && decide (n < 4294967296)) := by unfold isS; rw [Bool.eq_iff_iff]; simp; omega
  rw [e]
  cases k1 : decide (0 ≤ n) <;> simp [argsσ, Vm.results, k1]
theorem tmod_nat (a b : Nat) : Int.tmod (a : Int) (b : Int) = ((a % b : Nat) : Int) := by
  rw [Int.tmod_eq_emod_of_nonneg (by omega)]; omega
theorem times_spec (x g p q : Nat) (hx : x < 4294967296) (hg : g < 4294967296) (hp : g % 65536 = p) (hq : g / 65536 = q) : fnc Tryz.prog cfg R 127 [I x, I g] = some (I ((x * g % 4294967296 : Nat) : Int)) := by
  have hp2 : p < 65536 := by omega
  have hq2 : q < 65536 := by omega
  have b1 := fun x y => bin_rem Tryz.prog 3 x y .i64 (g : Int) 65536 (by decide)
  have b2 := fun x y => bin_quo Tryz.prog 3 x y .i64 (g : Int) 65536 (by decide)
  have e1 : (g : Int).tmod 65536 = (p : Nat) := by rw [show (65536 : Int) = ((65536 : Nat) : Int) from rfl, tmod_nat, hp]
  have e2 : IntKind.i64.wrap ((g : Int).tdiv 65536) = (q : Nat) := by
    rw [Int.tdiv_eq_ediv_of_nonneg (by omega), show (65536 : Int) = ((65536 : Nat) : Int) from rfl, ← Int.natCast_ediv, hq, wr (by omega) (by omega)]
  rw [e1] at b1
  rw [e2] at b2
  have m1 : x * p ≤ 4294967296 * 65536 := Nat.mul_le_mul (by omega) (by omega)
  have m2 : x * q ≤ 4294967296 * 65536 := Nat.mul_le_mul (by omega) (by omega)
  have hgg : x * g = x * p + x * q * 65536 := by
    have : g = p + q * 65536 := by omega
    rw [this, Nat.mul_add, Nat.mul_assoc]
  obtain ⟨A, hA⟩ : ∃ A : Int, (x : Int) * (p : Nat) = A := ⟨_, rfl⟩
  obtain ⟨B, hB⟩ : ∃ B : Int, (x : Int) * (q : Nat) = B := ⟨_, rfl⟩
  obtain ⟨C, hC⟩ : ∃ C : Nat, x * g = C := ⟨_, rfl⟩
  have eA : A = ((x * p : Nat) : Int) := by rw [← hA]; exact (Int.natCast_mul _ _).symm
  have eB : B = ((x * q : Nat) : Int) := by rw [← hB]; exact (Int.natCast_mul _ _).symm
  rw [hC] at hgg ⊢
  obtain ⟨a, ha⟩ : ∃ a : Nat, x * p = a := ⟨_, rfl⟩
  obtain ⟨b, hb⟩ : ∃ b : Nat, x * q = b := ⟨_, rfl⟩
  rw [ha] at eA m1 hgg
  rw [hb] at eB m2 hgg
  clear hC ha hb e1 e2
  have w1 : IntKind.i64.wrap A = A := wr (by omega) (by omega)
  have w2 : IntKind.i64.wrap B = B := wr (by omega) (by omega)
  have b3 := fun s t => bin_rem Tryz.prog 3 s t .i64 B 4294967296 (by decide)
  rw [Int.tmod_eq_emod_of_nonneg (by omega)] at b3
  have w3 : IntKind.i64.wrap (B % 4294967296 * 65536) = B % 4294967296 * 65536 := wr (by omega) (by omega)
  have w4 : IntKind.i64.wrap (A + B % 4294967296 * 65536) = A + B % 4294967296 * 65536 := wr (by omega) (by omega)
  have b4 := fun s t => bin_rem Tryz.prog 3 s t .i64 (A + B % 4294967296 * 65536) 4294967296 (by decide)
  rw [Int.tmod_eq_emod_of_nonneg (by omega)] at b4
  have e5 : (A + B % 4294967296 * 65536) % 4294967296 = ((C % 4294967296 : Nat) : Int) := by omega
  rw [e5] at b4
  obtain ⟨res, hres⟩ : ∃ r : Nat, C % 4294967296 = r := ⟨_, rfl⟩
  rw [hres] at b4 ⊢
  rw [fnc_at rfl, body_eq Tryz.func127 rfl rfl]
  simp [argsσ, Vm.results, b1, b2, hA, hB, w1, w2, b3, w3, w4, b4]
end Go.Proofs.YtlpadffinfijgaaGreatW.Rg
