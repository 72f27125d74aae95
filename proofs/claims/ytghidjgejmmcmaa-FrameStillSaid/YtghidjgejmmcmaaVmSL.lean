import Derived.Laws.BitsLemmas
import Derived.RowKit
namespace Go.Proofs.YtghidjgejmmcmaaW.Md
open Go Go.RowKit

theorem xor_nat (k : IntKind) (j : Nat) (hj : j ≤ k.bits) (hk : ∀ n : Int, 0 ≤ n → n < 2 ^ j → k.wrap n = n) (a b : Nat) (ha : a < 2 ^ j) (hb : b < 2 ^ j) :
    Go.bits .xor k a b = ((a ^^^ b : Nat) : Int) := by
  have hp : 2 ^ j ≤ 2 ^ k.bits := Nat.pow_le_pow_right (by decide) hj
  have ha' : a % 2 ^ k.bits = a := Nat.mod_eq_of_lt (Nat.lt_of_lt_of_le ha hp)
  have hb' : b % 2 ^ k.bits = b := Nat.mod_eq_of_lt (Nat.lt_of_lt_of_le hb hp)
  have cast : ∀ n : Nat, n < 2 ^ j → ((n : Nat) : Int) < 2 ^ j := fun n h => by exact_mod_cast h
  simp only [Go.bits, BitVec.ofInt_natCast, BitVec.toNat_xor, BitVec.toNat_ofNat, ha', hb']
  exact hk _ (Int.natCast_nonneg _) (cast _ (Nat.xor_lt_two_pow ha hb))

theorem xor_u32 (a b : Nat) (ha : a < 4294967296) (hb : b < 4294967296) : Go.bits .xor .u32 a b = ((a ^^^ b : Nat) : Int) :=
  xor_nat .u32 32 (by decide) (fun n h0 h1 => by rw [IntKind.wrap_u32]; omega) a b ha hb
theorem xor_i64 (a b : Nat) (ha : a < 4294967296) (hb : b < 4294967296) : Go.bits .xor .i64 a b = ((a ^^^ b : Nat) : Int) :=
  xor_nat .i64 32 (by decide) (fun n h0 h1 => by rw [IntKind.wrap_i64]; omega) a b ha hb

theorem xor_lt (a b : Nat) (ha : a < 4294967296) (hb : b < 4294967296) : a ^^^ b < 4294967296 := Nat.xor_lt_two_pow (n := 32) ha hb

theorem xor_zero {x y : Nat} (h : x ^^^ y = 0) : x = y := by
  have := congrArg (· ^^^ y) h
  simpa [Nat.xor_assoc] using this
theorem inv_inj (m g v a b : Nat) (hv : g * v % m = 1) (ha : a < m) (hb : b < m) (h : a * g % m = b * g % m) : a = b := by
  have key : ∀ x, x < m → x = (x * g % m) * v % m := fun x hx => by
    rw [Nat.mod_mul_mod, Nat.mul_assoc, Nat.mul_mod, hv, Nat.mul_one, Nat.mod_mod, Nat.mod_eq_of_lt hx]
  rw [key a ha, key b hb, h]

/-- one turn's first half: x XOR its upper part -/
def fold (k x : Nat) : Nat := x ^^^ (x / 2 ^ k)
theorem fold_lt (k x : Nat) (h : x < 4294967296) : fold k x < 4294967296 := xor_lt _ _ h (Nat.lt_of_le_of_lt (Nat.div_le_self _ _) h)
theorem fold_inj (k : Nat) (hk : 0 < k) (x y : Nat) (h : fold k x = fold k y) : x = y := by
  unfold fold at h
  rw [← Nat.shiftRight_eq_div_pow, ← Nat.shiftRight_eq_div_pow] at h
  have hz : x ^^^ y = (x ^^^ y) >>> k := by
    rw [Nat.shiftRight_xor_distrib]
    have h1 : x ^^^ y ^^^ (x >>> k ^^^ y >>> k) = 0 := by
      have : x ^^^ y ^^^ (x >>> k ^^^ y >>> k) = (x ^^^ x >>> k) ^^^ (y ^^^ y >>> k) := by ac_rfl
      rw [this, h, Nat.xor_self]
    exact xor_zero h1
  have h0 : x ^^^ y = 0 := by
    rw [Nat.shiftRight_eq_div_pow] at hz
    have h2 : 2 ≤ 2 ^ k := by
      have := Nat.pow_le_pow_right (n := 2) (by decide) hk
      simpa using this
    by_cases hx : x ^^^ y = 0
    · exact hx
    · have := Nat.div_lt_self (Nat.pos_of_ne_zero hx) h2
      omega
  exact xor_zero h0

theorem xor_inj_left (a x y : Nat) (h : a ^^^ x = a ^^^ y) : x = y := by
  have := congrArg (a ^^^ ·) h
  simpa [← Nat.xor_assoc] using this
theorem xor_inj_right (a x y : Nat) (h : x ^^^ a = y ^^^ a) : x = y := by
  rw [Nat.xor_comm x, Nat.xor_comm y] at h
  exact xor_inj_left a x y h

def G (n : Nat) : Nat := (n + 1) % 4294967296 * 2654435761 % 4294967296
theorem G_def (n : Nat) : G n = (n + 1) % 4294967296 * 2654435761 % 4294967296 := rfl
theorem G_lt (n : Nat) : G n < 4294967296 := Nat.mod_lt _ (by decide)
theorem G_inj (a b : Nat) (ha : a < 4294967296) (hb : b < 4294967296) (h : G a = G b) : a = b := by
  have h1 := inv_inj 4294967296 2654435761 244002641 _ _ (by decide) (Nat.mod_lt _ (by decide)) (Nat.mod_lt _ (by decide)) h
  omega
def M (x : Nat) : Nat := x * 2246822507 % 4294967296
theorem M_def (x : Nat) : M x = x * 2246822507 % 4294967296 := rfl
theorem M_lt (n : Nat) : M n < 4294967296 := Nat.mod_lt _ (by decide)
theorem M_inj (a b : Nat) (ha : a < 4294967296) (hb : b < 4294967296) (h : M a = M b) : a = b :=
  inv_inj 4294967296 2246822507 2781581891 _ _ (by decide) ha hb h

def mix (s n : Nat) : Nat := fold 13 (M (fold 15 (M (fold 15 (s ^^^ G n)))))
theorem mix_def (s n : Nat) : mix s n = fold 13 (M (fold 15 (M (fold 15 (s ^^^ G n))))) := rfl
theorem mix_lt (s n : Nat) : mix s n < 4294967296 := fold_lt _ _ (M_lt _)
theorem mix_core (x y : Nat) (hx : x < 4294967296) (hy : y < 4294967296) (h : fold 13 (M (fold 15 (M (fold 15 x)))) = fold 13 (M (fold 15 (M (fold 15 y))))) : x = y := by
  have h1 := fold_inj 13 (by decide) _ _ h
  have h2 := M_inj _ _ (fold_lt _ _ (M_lt _)) (fold_lt _ _ (M_lt _)) h1
  have h3 := fold_inj 15 (by decide) _ _ h2
  have h4 := M_inj _ _ (fold_lt _ _ hx) (fold_lt _ _ hy) h3
  exact fold_inj 15 (by decide) _ _ h4
theorem mix_seed (a b n : Nat) (ha : a < 4294967296) (hb : b < 4294967296) (h : mix a n = mix b n) : a = b :=
  xor_inj_right (G n) _ _ (mix_core _ _ (xor_lt _ _ ha (G_lt _)) (xor_lt _ _ hb (G_lt _)) h)
theorem mix_num (s a b : Nat) (hs : s < 4294967296) (ha : a < 4294967296) (hb : b < 4294967296) (h : mix s a = mix s b) : a = b :=
  G_inj a b ha hb (xor_inj_left s _ _ (mix_core _ _ (xor_lt _ _ hs (G_lt _)) (xor_lt _ _ hs (G_lt _)) h))

def child (s k : Nat) : Nat := mix (mix s 1) k
theorem child_lt (s n : Nat) : child s n < 4294967296 := mix_lt _ _
theorem child_seed (a b n : Nat) (ha : a < 4294967296) (hb : b < 4294967296) (h : child a n = child b n) : a = b :=
  mix_seed _ _ _ ha hb (mix_seed _ _ _ (mix_lt _ _) (mix_lt _ _) h)
theorem child_num (s a b : Nat) (ha : a < 4294967296) (hb : b < 4294967296) (h : child s a = child s b) : a = b :=
  mix_num _ _ _ (mix_lt _ _) ha hb h

/-- is it a seed? -/
def isS (n : Int) : Bool := decide (0 ≤ n ∧ n ≤ 4294967295)
def mixI (s n : Int) : Int := if isS s && isS n then (mix s.toNat n.toNat : Int) else 0
def childI (s n : Int) : Int := if isS s && isS n then (child s.toNat n.toNat : Int) else 0
/-- a draw's two numbers -/
def drawI (s n : Int) : Int × Int := if isS s && isS n then ((mix (mix s.toNat 2) n.toNat : Int) % 251, (mix (mix s.toNat 2) n.toNat : Int) / 65536 % 251) else (0, 0)

theorem xor_u32_div (x k : Nat) (h : x < 4294967296) : Go.bits .xor .u32 (x : Int) ((x : Int) / ((2 ^ k : Nat) : Int)) = ((fold k x : Nat) : Int) := by
  rw [← Int.natCast_ediv, xor_u32 _ _ h (Nat.lt_of_le_of_lt (Nat.div_le_self _ _) h)]; rfl
end Go.Proofs.YtghidjgejmmcmaaW.Md
