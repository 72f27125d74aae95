/- Values: Gaussian whole numbers modulo 251; the quotient by a power is the document's. No conditions. -/
import Derived.IntWalk
set_option linter.unusedVariables false
set_option linter.unusedSimpArgs false
namespace Go.Proofs.YtghidjgejmmcmaaW.Md
structure Vl where
  re : Int
  im : Int
  deriving DecidableEq
def ofG (re im : Int) : Vl := ⟨re % 251, im % 251⟩
def Vl.red (v : Vl) : Vl := ofG v.re v.im
def Vl.may (v : Vl) : Bool := decide (0 ≤ v.re) && decide (v.re < 251) && decide (0 ≤ v.im) && decide (v.im < 251)
def addG (a b : Vl) : Vl := ofG (a.re % 251 + b.re % 251) (a.im % 251 + b.im % 251)
def subG (a b : Vl) : Vl := ofG (a.re % 251 - b.re % 251) (a.im % 251 - b.im % 251)
def mulG (a b : Vl) : Vl := ofG (a.re % 251 * (b.re % 251) - a.im % 251 * (b.im % 251)) (a.re % 251 * (b.im % 251) + a.im % 251 * (b.re % 251))
def conjG (a : Vl) : Vl := ofG (a.re % 251) (-(a.im % 251))
def oneG : Vl := ⟨1, 0⟩
/-- the program's power -/
def powL : Nat → Nat → Vl → Vl → Vl
  | 0, _, o, _ => o
  | k + 1, n, o, a => if n = 0 then o else powL k (n / 2) (if n % 2 = 1 then mulG o a else o) (mulG a a)
/-- the least inverse -/
def invF : Nat → Int → Int → Int
  | 0, _, _ => 0
  | m + 1, k, n => if n * k % 251 = 1 then k else invF m (k + 1) n
def invG (n : Int) : Int := invF 250 1 n
def normG (y : Vl) : Int := (y.re * y.re + y.im * y.im) % 251
/-- the document's quotient -/
def divG (a b : Vl) : Option Vl :=
  if normG b.red = 0 then none else some (ofG ((mulG a (conjG b.red)).re * invG (normG b.red)) ((mulG a (conjG b.red)).im * invG (normG b.red)))
def mulZ (a b : Vl) : Vl := ⟨a.re * b.re - a.im * b.im, a.re * b.im + a.im * b.re⟩
def pw (a : Vl) : Nat → Vl
  | 0 => oneG
  | n + 1 => mulG (pw a n) a
theorem em (a : Int) : a % 251 = a - 251 * (a / 251) := by have := Int.emod_add_mul_ediv a 251; omega
theorem modeq {x y : Int} (q : Int) (h : x = y + 251 * q) : x % 251 = y % 251 := by rw [h, Int.add_mul_emod_self_left]
theorem mulG_Z (a b : Vl) : mulG a b = (mulZ a b).red := by
  unfold mulG mulZ Vl.red ofG
  simp only [Vl.mk.injEq]
  rw [em a.re, em a.im, em b.re, em b.im]
  generalize a.re / 251 = p; generalize a.im / 251 = q; generalize b.re / 251 = r; generalize b.im / 251 = s
  constructor
  · exact modeq (-(p * b.re) - a.re * r + 251 * p * r + q * b.im + a.im * s - 251 * q * s) (by grind)
  · exact modeq (-(p * b.im) - a.re * s + 251 * p * s - q * b.re - a.im * r + 251 * q * r) (by grind)
theorem red_red (a : Vl) : a.red.red = a.red := by simp [Vl.red, ofG]
theorem mulG_red_l (a b : Vl) : mulG a.red b = mulG a b := by simp [mulG, Vl.red, ofG]
theorem mulG_red_r (a b : Vl) : mulG a b.red = mulG a b := by simp [mulG, Vl.red, ofG]
theorem mulG_comm (a b : Vl) : mulG a b = mulG b a := by
  rw [mulG_Z, mulG_Z]; congr 1; unfold mulZ; simp only [Vl.mk.injEq]; constructor <;> grind
theorem mulG_assoc (a b c : Vl) : mulG (mulG a b) c = mulG a (mulG b c) := by
  rw [mulG_Z a b, mulG_Z b c, mulG_red_l, mulG_red_r, mulG_Z, mulG_Z]; congr 1; unfold mulZ; simp only [Vl.mk.injEq]; constructor <;> grind
theorem mulG_red (a b : Vl) : (mulG a b).red = mulG a b := by rw [mulG_Z, red_red]
theorem one_mulG (a : Vl) : mulG oneG a = a.red := by rw [mulG_Z]; congr 1; unfold mulZ oneG; cases a; simp
theorem mulG_one (a : Vl) : mulG a oneG = a.red := by rw [mulG_comm, one_mulG]
theorem pw_red (a : Vl) (n : Nat) : (pw a n).red = pw a n := by cases n with | zero => rfl | succ n => exact mulG_red _ _
theorem pw_mul (a b : Vl) : ∀ n, pw (mulG a b) n = mulG (pw a n) (pw b n)
  | 0 => by simp only [pw]; decide
  | n + 1 => by
    simp only [pw]
    rw [pw_mul a b n, mulG_assoc, ← mulG_assoc (pw b n), mulG_comm (pw b n) a, mulG_assoc a, ← mulG_assoc]
theorem pw_add (a : Vl) (m : Nat) : ∀ n, pw a (m + n) = mulG (pw a m) (pw a n)
  | 0 => by simp only [pw, Nat.add_zero]; rw [mulG_one, pw_red]
  | n + 1 => by rw [← Nat.add_assoc]; simp only [pw]; rw [pw_add a m n, mulG_assoc]
theorem pw_one (a : Vl) : pw a 1 = a.red := by simp only [pw]; rw [one_mulG]
theorem pw_redb (a : Vl) : ∀ n, pw a.red n = pw a n
  | 0 => rfl
  | n + 1 => by simp only [pw]; rw [pw_redb a n, mulG_red_r]
theorem pw_sq (a : Vl) (n : Nat) : pw (mulG a a) n = pw a (2 * n) := by rw [pw_mul, ← pw_add]; congr 1; omega
theorem powL_eq : ∀ (k n : Nat) (o a : Vl), n < 2 ^ k → o.red = o → powL k n o a = mulG o (pw a n)
  | 0, n, o, a, h, ho => by
    have : n = 0 := by simpa using h
    subst this
    show o = mulG o oneG
    rw [mulG_one, ho]
  | k + 1, n, o, a, h, ho => by
    unfold powL
    split
    · rename_i h0; subst h0; show o = mulG o oneG; rw [mulG_one, ho]
    · rename_i h0
      have hk : n / 2 < 2 ^ k := by rw [Nat.pow_succ] at h; omega
      split
      · rename_i h1
        rw [powL_eq k _ _ _ hk (mulG_red _ _), pw_sq, mulG_assoc]
        congr 1
        have : n = 1 + 2 * (n / 2) := by omega
        conv => rhs; rw [this, pw_add, pw_one, mulG_red_l]
      · rename_i h1
        rw [powL_eq k _ _ _ hk ho, pw_sq]
        congr 2
        omega
theorem pow_re : ∀ x : Fin 251, x.val = 0 ∨ powL 16 63000 oneG ⟨x.val, 0⟩ = oneG := by decide +kernel
theorem pow_im : ∀ x : Fin 251, x.val = 0 ∨ powL 16 63000 oneG ⟨0, x.val⟩ = oneG := by decide +kernel
theorem pow_t : ∀ x : Fin 251, powL 16 63000 oneG ⟨1, x.val⟩ = oneG := by decide +kernel
theorem inv_all : ∀ x : Fin 251, x.val = 0 ∨ ((x.val : Int) * invG x.val % 251 = 1) := by decide +kernel
theorem norm_all : (List.range 251).all (fun x => (List.range 251).all fun y => (x * x + y * y) % 251 != 0 || (x == 0 && y == 0)) = true := by decide +kernel
theorem fin251 {n : Int} (h0 : 0 ≤ n) (h1 : n < 251) : ∃ k : Fin 251, n = (k.val : Int) := ⟨⟨n.toNat, by omega⟩, by simp; omega⟩
theorem inv_spec {x : Int} (h0 : 0 < x) (h1 : x < 251) : x * invG x % 251 = 1 := by
  obtain ⟨k, rfl⟩ := fin251 (by omega) h1
  rcases inv_all k with h | h
  · omega
  · exact h
theorem norm_zero {x y : Int} (hx : 0 ≤ x ∧ x < 251) (hy : 0 ≤ y ∧ y < 251) (h : (x * x + y * y) % 251 = 0) : x = 0 ∧ y = 0 := by
  obtain ⟨a, rfl⟩ := fin251 hx.1 hx.2
  obtain ⟨b, rfl⟩ := fin251 hy.1 hy.2
  have := List.all_eq_true.1 (List.all_eq_true.1 norm_all a.val (by simp)) b.val (by simp)
  simp only [Bool.or_eq_true, bne_iff_ne, ne_eq, Bool.and_eq_true, beq_iff_eq] at this
  rcases this with h2 | h2
  · exfalso; apply h2
    have : ((a.val * a.val + b.val * b.val : Nat) : Int) % 251 = 0 := by simpa using h
    omega
  · omega
theorem pw_full {b : Vl} (hb : b.red = b) (h : b ≠ ⟨0, 0⟩) : pw b 63000 = oneG := by
  have hone : oneG.red = oneG := by decide
  have hx : 0 ≤ b.re ∧ b.re < 251 := by rw [← hb]; unfold Vl.red ofG; simp only; omega
  have hy : 0 ≤ b.im ∧ b.im < 251 := by rw [← hb]; unfold Vl.red ofG; simp only; omega
  obtain ⟨x, y⟩ := b
  simp only at hx hy
  have L := fun a => powL_eq 16 63000 oneG a (by decide) hone
  have L1 : ∀ a : Vl, powL 16 63000 oneG a = oneG → pw a 63000 = oneG := fun a h => by rw [L, one_mulG, pw_red] at h; exact h
  by_cases h0 : x = 0
  · subst h0
    obtain ⟨k, rfl⟩ := fin251 hy.1 hy.2
    rcases pow_im k with h2 | h2
    · exfalso; apply h; simp [h2]
    · exact L1 _ h2
  · have hi := inv_spec (x := x) (by omega) hx.2
    have ht : 0 ≤ y * invG x % 251 ∧ y * invG x % 251 < 251 := by omega
    have e : (⟨x, y⟩ : Vl) = mulG ⟨x, 0⟩ ⟨1, y * invG x % 251⟩ := by
      rw [mulG_Z]
      unfold mulZ Vl.red ofG
      simp only [Vl.mk.injEq]
      refine ⟨by simp; omega, ?_⟩
      generalize invG x = i at *
      have e1 : x * (y * i % 251) % 251 = y % 251 := by
        rw [em (y * i)]
        have e2 : x * i = 1 + 251 * (x * i / 251) := by have := Int.emod_add_mul_ediv (x * i) 251; omega
        generalize y * i / 251 = q
        generalize x * i / 251 = r at e2
        refine modeq (y * r - x * q) ?_
        have : x * (y * i - 251 * q) = y * (x * i) - 251 * (x * q) := by grind
        rw [this, e2]; grind
      simp only [Int.zero_mul, Int.add_zero]
      rw [e1]; omega
    rw [e, pw_mul]
    obtain ⟨k, hk⟩ := fin251 hx.1 hx.2
    obtain ⟨t, ht'⟩ := fin251 ht.1 ht.2
    rw [ht']
    subst hk
    rcases pow_re k with h2 | h2
    · exact absurd (by simp [h2]) h0
    · rw [L1 _ h2, L1 _ (pow_t t)]; decide
/-- the quotient by a power is the document's -/
theorem div_pow (a b : Vl) (h : normG b.red ≠ 0) : divG a b = some (mulG a (powL 16 62999 oneG b.red)) := by
  have hone : oneG.red = oneG := by decide
  have hb : b.red.red = b.red := red_red b
  unfold divG
  rw [if_neg h]
  generalize b.red = c at *
  have hx : 0 ≤ c.re ∧ c.re < 251 := by rw [← hb]; unfold Vl.red ofG; simp only; omega
  have hy : 0 ≤ c.im ∧ c.im < 251 := by rw [← hb]; unfold Vl.red ofG; simp only; omega
  have hc : c ≠ ⟨0, 0⟩ := by rintro rfl; exact h (by decide)
  have hn : 0 ≤ normG c ∧ normG c < 251 := by unfold normG; omega
  have hi := inv_spec (x := normG c) (by omega) hn.2
  have hN : (c.re * c.re + c.im * c.im) % 251 = normG c := rfl
  generalize normG c = n at *
  generalize invG n = i at *
  have hinv : mulG c (mulG (conjG c) ⟨i, 0⟩) = oneG := by
    rw [mulG_Z, mulG_Z, show (mulZ c (mulZ (conjG c) ⟨i, 0⟩).red).red = mulG c (mulZ (conjG c) ⟨i, 0⟩).red from (mulG_Z _ _).symm, mulG_red_r, mulG_Z]
    have e1 : c.re % 251 = c.re := by omega
    have e2 : c.im % 251 = c.im := by omega
    have e3 : (conjG c).re = c.re := by unfold conjG ofG; simp only; rw [e1, e1]
    have e4 : (conjG c).im = -c.im - 251 * (-c.im / 251) := by unfold conjG ofG; simp only; rw [e2, em]
    unfold mulZ Vl.red ofG oneG
    simp only [e3, e4, Vl.mk.injEq]
    generalize -c.im / 251 = q
    have e5 : c.re * c.re + c.im * c.im = n + 251 * ((c.re * c.re + c.im * c.im) / 251) := by have := Int.emod_add_mul_ediv (c.re * c.re + c.im * c.im) 251; omega
    have e6 : n * i = 1 + 251 * (n * i / 251) := by have := Int.emod_add_mul_ediv (n * i) 251; omega
    generalize (c.re * c.re + c.im * c.im) / 251 = r at e5
    generalize n * i / 251 = s at e6
    constructor
    · rw [show (1 : Int) = 1 % 251 by decide]
      refine modeq (s + r * i + c.im * q * i) ?_
      have : c.re * (c.re * i - (-c.im - 251 * q) * 0) - c.im * (c.re * 0 + (-c.im - 251 * q) * i) = (c.re * c.re + c.im * c.im) * i + 251 * (c.im * q * i) := by grind
      rw [this, e5]
      have : (n + 251 * r) * i = n * i + 251 * (r * i) := by grind
      rw [this, e6]; grind
    · rw [show (0 : Int) = 0 % 251 by decide]
      exact modeq (-(c.re * q * i)) (by grind)
  have h1 : pw c 62999 = mulG (conjG c) ⟨i, 0⟩ := by
    have e : pw c 63000 = mulG (pw c 62999) c := rfl
    rw [pw_full hb hc] at e
    calc pw c 62999 = mulG (pw c 62999) oneG := by rw [mulG_one, pw_red]
      _ = mulG (pw c 62999) (mulG c (mulG (conjG c) ⟨i, 0⟩)) := by rw [hinv]
      _ = mulG (mulG (pw c 62999) c) (mulG (conjG c) ⟨i, 0⟩) := by rw [mulG_assoc]
      _ = mulG (conjG c) ⟨i, 0⟩ := by rw [← e, one_mulG, mulG_red]
  rw [powL_eq 16 62999 oneG c (by decide) hone, one_mulG, pw_red, h1, ← mulG_assoc, mulG_Z (mulG a (conjG c))]
  unfold mulZ Vl.red ofG
  simp
theorem divG_none (a b : Vl) : divG a b = none ↔ b.red = ⟨0, 0⟩ := by
  unfold divG
  constructor
  · intro h
    split at h
    · rename_i h0
      have hx : 0 ≤ b.red.re ∧ b.red.re < 251 := by unfold Vl.red ofG; simp only; omega
      have hy : 0 ≤ b.red.im ∧ b.red.im < 251 := by unfold Vl.red ofG; simp only; omega
      obtain ⟨h1, h2⟩ := norm_zero hx hy h0
      cases hb : b.red with | mk p q => rw [hb] at h1 h2; simp only at h1 h2; rw [h1, h2]
    · cases h
  · intro h
    rw [h, if_pos (by decide)]
end Go.Proofs.YtghidjgejmmcmaaW.Md
