/- Floats that are whole numbers: sums, differences, products are exact. No conditions. -/
import Derived.Laws.ComplexArith
set_option linter.unusedVariables false
set_option linter.unusedSimpArgs false
namespace Go.Proofs.YtlpadffinfijgaaW.Fl
open Go Ieee
/-- the rung of a whole number below 2 to the power of 53 -/
def rungN (a : Nat) : Nat := if a = 0 then 0 else (a.log2 + 1022) * 2 ^ 52 + a * 2 ^ (52 - a.log2)
/-- the word of a whole number -/
def F (n : Int) : Nat := double.word (decide (n < 0)) (rungN n.natAbs)
theorem sig_ge {a : Nat} (h0 : a ≠ 0) (h : a < 2 ^ 53) : 2 ^ 52 ≤ a * 2 ^ (52 - a.log2) ∧ a * 2 ^ (52 - a.log2) < 2 ^ 53 ∧ a.log2 ≤ 52 := by
  have h1 : 2 ^ a.log2 ≤ a := Nat.log2_self_le h0
  have h2 : a < 2 ^ (a.log2 + 1) := Nat.lt_log2_self
  have h3 : a.log2 ≤ 52 := by
    have := (Nat.log2_lt h0).2 h
    omega
  have e : 2 ^ 52 = 2 ^ a.log2 * 2 ^ (52 - a.log2) := by rw [← Nat.pow_add]; congr 1; omega
  have e2 : 2 ^ 53 = 2 ^ (a.log2 + 1) * 2 ^ (52 - a.log2) := by rw [← Nat.pow_add]; congr 1; omega
  refine ⟨?_, ?_, h3⟩
  · rw [e]; exact Nat.mul_le_mul_right _ h1
  · rw [e2]; exact Nat.mul_lt_mul_of_pos_right h2 (Nat.two_pow_pos _)
theorem cut_pow {s : Bool} {q drop : Nat} (n : Nat) (hn : n = q * 2 ^ drop) : Toward.even.cut s n drop = q := by
  subst hn
  have hd : min drop ((q * 2 ^ drop).log2 + 2) = drop ∨ q = 0 := by
    by_cases h0 : q = 0
    · exact .inr h0
    · left
      have : q * 2 ^ drop ≠ 0 := Nat.mul_ne_zero h0 (Nat.pos_iff_ne_zero.1 (Nat.two_pow_pos _))
      have : drop ≤ (q * 2 ^ drop).log2 := (Nat.le_log2 this).2 (Nat.le_mul_of_pos_left _ (Nat.pos_of_ne_zero h0))
      omega
  unfold Toward.cut
  rcases hd with hd | h0
  · have hp := Nat.two_pow_pos drop
    simp [hd, Nat.shiftLeft_eq, Nat.mul_div_cancel _ hp, Nat.mul_mod_left]
  · subst h0
    have hp := Nat.two_pow_pos (min drop 2)
    simp [Nat.shiftLeft_eq]
theorem ar1 (L m : Nat) (h1 : L ≤ 52) (h2 : m < 9007199254740992) : (L + 1022) * 4503599627370496 + m ≤ 2047 * 4503599627370496 := by omega
theorem ar2 (L m : Nat) (h1 : L ≤ 52) (h2 : m < 9007199254740992) (h3 : 4503599627370496 ≤ m) : ((L + 1022) * 4503599627370496 + m) / 4503599627370496 = L + 1023 ∧ ((L + 1022) * 4503599627370496 + m) % 4503599627370496 = m - 4503599627370496 ∧ ¬ ((L + 1022) * 4503599627370496 + m < 4503599627370496) ∧ (L + 1022) * 4503599627370496 + m < 2047 * 4503599627370496 ∧ 4503599627370496 + (m - 4503599627370496) = m := by omega
theorem ar3 (L : Nat) (h : L ≤ 52) : (-1074 : Int) + ((L + 1023 - 1 : Nat) : Int) = -((52 - L : Nat) : Int) := by omega
theorem nearest_eq (s : Bool) (a k : Nat) (h : a < 2 ^ 53) : double.nearest s (a * 2 ^ k) (-(k : Int)) = double.word s (rungN a) := by
  unfold Format.nearest rungN
  by_cases h0 : a = 0
  · subst h0; simp
  have hne : a * 2 ^ k ≠ 0 := Nat.mul_ne_zero h0 (Nat.pos_iff_ne_zero.1 (Nat.two_pow_pos _))
  obtain ⟨g1, g2, g3⟩ := sig_ge h0 h
  have hl : (a * 2 ^ k).log2 = a.log2 + k := by
    apply Nat.le_antisymm
    · have h2 : a < 2 ^ (a.log2 + 1) := Nat.lt_log2_self
      have : a * 2 ^ k < 2 ^ (a.log2 + k + 1) := by
        rw [show a.log2 + k + 1 = (a.log2 + 1) + k by omega, Nat.pow_add]
        exact Nat.mul_lt_mul_of_pos_right h2 (Nat.two_pow_pos _)
      have := (Nat.log2_lt hne).2 this
      omega
    · apply (Nat.le_log2 hne).2
      rw [Nat.pow_add]
      exact Nat.mul_le_mul_right _ (Nat.log2_self_le h0)
  rw [if_neg hne, if_neg h0]
  have hlp : double.leastPlace = -1074 := by decide
  have hfb : double.fractionBits = 52 := rfl
  have hbin : double.binade = 2 ^ 52 := rfl
  have hir : double.infRung = 2047 * 2 ^ 52 := by decide
  simp only [hl, hlp, hfb, hbin, hir]
  generalize hL : a.log2 = L at *
  have hmax : max (-(k : Int) + ((L + k : Nat) : Int) - ((52 : Nat) : Int)) (-1074) = (L : Int) - 52 := by
    rw [Int.max_eq_left (by omega)]; omega
  rw [hmax]
  have hkept : Toward.even.cut s ((a * 2 ^ k) <<< (-(k : Int) - ((L : Int) - 52)).toNat) ((L : Int) - 52 - -(k : Int)).toNat = a * 2 ^ (52 - L) := by
    apply cut_pow
    rw [Nat.shiftLeft_eq, Nat.mul_assoc, Nat.mul_assoc, ← Nat.pow_add, ← Nat.pow_add]
    congr 2
    omega
  rw [hkept, show ((L : Int) - 52 - -1074).toNat = L + 1022 by omega]
  congr 1
  apply Nat.min_eq_left
  exact ar1 L _ g3 g2
theorem rungN_lt {a : Nat} (h : a < 2 ^ 53) : rungN a < 2 ^ 63 := by
  unfold rungN
  split
  · decide
  · rename_i h0
    obtain ⟨g1, g2, g3⟩ := sig_ge h0 h
    have : (a.log2 + 1022) * 2 ^ 52 ≤ 1074 * 2 ^ 52 := Nat.mul_le_mul_right _ (by omega)
    omega
/-- what the word of a whole number stands for -/
theorem read_word (s : Bool) (a : Nat) (h : a < 2 ^ 53) : ∃ k : Nat, double.read (double.word s (rungN a)) = .number s (a * 2 ^ k) (-(k : Int)) := by
  have hr := rungN_lt h
  have hsw : double.signWeight = 2 ^ 63 := rfl
  have hbin : double.binade = 2 ^ 52 := rfl
  have hir : double.infRung = 2047 * 2 ^ 52 := by decide
  have hlp : double.leastPlace = -1074 := by decide
  have hneg : (double.word s (rungN a) / 2 ^ 63 % 2 == 1) = s := by
    unfold Format.word
    rw [hsw]
    cases s
    · simp; omega
    · simp; omega
  have hrung : double.word s (rungN a) % 2 ^ 63 = rungN a := by
    unfold Format.word
    rw [hsw]
    cases s
    · simp; omega
    · simp; omega
  unfold Format.read
  simp only [hsw, hbin, hir, hlp, hneg, hrung]
  by_cases h0 : a = 0
  · subst h0
    obtain ⟨k, hk⟩ : ∃ k : Nat, k = 1074 := ⟨_, rfl⟩
    refine ⟨k, ?_⟩
    rw [if_pos (by decide), Nat.zero_mul, show (-1074 : Int) = -(k : Int) by omega]
    rfl
  · obtain ⟨g1, g2, g3⟩ := sig_ge h0 h
    have e : rungN a = (a.log2 + 1022) * 2 ^ 52 + a * 2 ^ (52 - a.log2) := by unfold rungN; rw [if_neg h0]
    generalize hL : a.log2 = L at *
    refine ⟨52 - L, ?_⟩
    obtain ⟨q1, q2, q3, q4, q5⟩ := ar2 L _ g3 g2 g1
    rw [e]
    generalize a * 2 ^ (52 - L) = m at *
    have p52 : (2 : Nat) ^ 52 = 4503599627370496 := rfl
    simp only [p52]
    rw [if_neg q3, if_pos q4, q1, q2, q5]
    rw [ar3 L g3]
theorem read_F (n : Int) (h : n.natAbs < 2 ^ 53) : ∃ k : Nat, double.read (F n) = .number (decide (n < 0)) (n.natAbs * 2 ^ k) (-(k : Int)) := read_word _ _ h
theorem write_F (n : Int) (k : Nat) (s : Bool) (h : n.natAbs < 2 ^ 53) (hs : s = decide (n < 0)) (m : Nat) (hm : m = n.natAbs * 2 ^ k) : double.write (.number s m (-(k : Int))) = F n := by
  subst hs hm
  exact nearest_eq _ _ _ h
theorem signed_eq (n : Int) (k u : Nat) : signed (decide (n < 0)) (n.natAbs * 2 ^ k) u = n * (2 ^ (k + u) : Nat) := by
  unfold signed
  rw [Nat.shiftLeft_eq, Nat.mul_assoc, ← Nat.pow_add]
  by_cases h : n < 0
  · rw [if_pos (by simp [h]), Int.natCast_mul, ← Int.neg_mul]; congr 1; omega
  · rw [if_neg (by simp [h]), Int.natCast_mul]; congr 1; omega
theorem signed_opp (n : Int) (k u : Nat) : signed (!decide (n < 0)) (n.natAbs * 2 ^ k) u = -n * (2 ^ (k + u) : Nat) := by
  unfold signed
  rw [Nat.shiftLeft_eq, Nat.mul_assoc, ← Nat.pow_add]
  by_cases h : n < 0
  · rw [if_neg (by simp [h]), Int.natCast_mul]; congr 1; omega
  · rw [if_pos (by simp [h]), Int.natCast_mul, ← Int.neg_mul]; congr 1; omega
theorem mul_pow_neg (x : Int) (k : Nat) : (x * (2 ^ k : Nat) < 0) ↔ x < 0 := by
  have hp : (0 : Int) < (2 ^ k : Nat) := by exact_mod_cast Nat.two_pow_pos k
  constructor
  · intro h
    apply Int.not_le.1
    intro h0
    have := Int.mul_nonneg h0 (Int.le_of_lt hp)
    omega
  · intro h
    exact Int.mul_neg_of_neg_of_pos h hp
theorem mul_pow_zero (x : Int) (k : Nat) : (x * (2 ^ k : Nat) = 0) ↔ x = 0 := by
  have hp : (0 : Int) < (2 ^ k : Nat) := by exact_mod_cast Nat.two_pow_pos k
  rw [Int.mul_eq_zero]
  constructor
  · rintro (h | h)
    · exact h
    · omega
  · exact .inl
/-- sums of whole numbers -/
theorem sum_eq (a b c : Int) (s t : Bool) (i j : Nat) (ma mb : Nat) (ha : ∀ u, signed s ma u = a * (2 ^ (i + u) : Nat)) (hb : ∀ u, signed t mb u = b * (2 ^ (j + u) : Nat)) (hc : c = a + b) (hst : c = 0 → (s && t) = false) (h : c.natAbs < 2 ^ 53) :
    ((Datum.number s ma (-(i : Int))).sum (.number t mb (-(j : Int)))).map double.write = some (F c) := by
  simp only [Datum.sum, Option.map_some]
  have hmin : min (-(i : Int)) (-(j : Int)) = -((max i j : Nat) : Int) := by omega
  rw [hmin]
  have e1 : (-(i : Int) - -((max i j : Nat) : Int)).toNat = max i j - i := by omega
  have e2 : (-(j : Int) - -((max i j : Nat) : Int)).toNat = max i j - j := by omega
  rw [e1, e2, ha, hb, show i + (max i j - i) = max i j by omega, show j + (max i j - j) = max i j by omega, ← Int.add_mul, ← hc]
  congr 1
  apply write_F _ _ _ h
  · by_cases h0 : c = 0
    · rw [if_pos (by rw [mul_pow_zero]; exact h0), hst h0]; simp [h0]
    · rw [if_neg (by rw [mul_pow_zero]; exact h0)]
      congr 1
      exact propext (mul_pow_neg _ _)
  · rw [Int.natAbs_mul, Int.natAbs_natCast]
theorem add_F (a b : Int) (ha : a.natAbs < 2 ^ 53) (hb : b.natAbs < 2 ^ 53) (hc : (a + b).natAbs < 2 ^ 53) : double.add (F a) (F b) = some (F (a + b)) := by
  obtain ⟨i, hi⟩ := read_F a ha
  obtain ⟨j, hj⟩ := read_F b hb
  unfold Format.add
  rw [hi, hj]
  exact sum_eq a b (a + b) _ _ i j _ _ (signed_eq a i) (signed_eq b j) rfl (fun h => by
    by_cases h1 : a < 0
    · have : ¬ b < 0 := by omega
      simp [this]
    · simp [h1]) hc
theorem sub_F (a b : Int) (ha : a.natAbs < 2 ^ 53) (hb : b.natAbs < 2 ^ 53) (hc : (a - b).natAbs < 2 ^ 53) : double.sub (F a) (F b) = some (F (a - b)) := by
  obtain ⟨i, hi⟩ := read_F a ha
  obtain ⟨j, hj⟩ := read_F b hb
  unfold Format.sub
  rw [hi, hj]
  exact sum_eq a (-b) (a - b) _ _ i j _ _ (signed_eq a i) (signed_opp b j) (by omega) (fun h => by
    by_cases h1 : a < 0
    · have : b < 0 := by omega
      simp [this]
    · simp [h1]) hc
theorem mul_F (a b : Int) (ha : a.natAbs < 2 ^ 53) (hb : b.natAbs < 2 ^ 53) (ha0 : 0 ≤ a) (hb0 : 0 ≤ b) (hc : (a * b).natAbs < 2 ^ 53) : double.mul (F a) (F b) = some (F (a * b)) := by
  obtain ⟨i, hi⟩ := read_F a ha
  obtain ⟨j, hj⟩ := read_F b hb
  unfold Format.mul
  rw [hi, hj]
  simp only [Datum.product, Option.map_some]
  rw [show -(i : Int) + -(j : Int) = -((i + j : Nat) : Int) by omega]
  congr 1
  have h0 : 0 ≤ a * b := Int.mul_nonneg ha0 hb0
  apply write_F _ _ _ hc
  · have h1 : ¬ a < 0 := by omega
    have h2 : ¬ b < 0 := by omega
    have h3 : ¬ a * b < 0 := by omega
    simp [h1, h2, h3]
  · rw [Int.natAbs_mul, Nat.pow_add]
    simp only [Nat.mul_assoc, Nat.mul_left_comm, Nat.mul_comm]
theorem cut_zero {s : Bool} {q drop : Nat} : Toward.zero.cut s (q * 2 ^ drop) drop = q := by
  unfold Toward.cut
  by_cases h0 : q = 0
  · subst h0; simp
  · have : q * 2 ^ drop ≠ 0 := Nat.mul_ne_zero h0 (Nat.pos_iff_ne_zero.1 (Nat.two_pow_pos _))
    have : drop ≤ (q * 2 ^ drop).log2 := (Nat.le_log2 this).2 (Nat.le_mul_of_pos_left _ (Nat.pos_of_ne_zero h0))
    rw [Nat.min_eq_left (by omega)]
    simp [Nat.shiftLeft_eq, Nat.mul_div_cancel _ (Nat.two_pow_pos drop)]
theorem toInt_F (n : Int) (h : n.natAbs < 2 ^ 53) : (double.read (F n)).toInt .zero = some n := by
  obtain ⟨k, hk⟩ := read_F n h
  rw [hk]
  simp only [Datum.toInt, Datum.integral]
  have e1 : (-(k : Int)).toNat = 0 := by omega
  have e2 : (- -(k : Int)).toNat = k := by omega
  rw [e1, e2, Nat.shiftLeft_zero, cut_zero]
  have := signed_eq n 0 0
  simp at this
  simp [this]
theorem order_F (a b : Int) (ha : a.natAbs < 2 ^ 53) (hb : b.natAbs < 2 ^ 53) : (double.order (F a) (F b) == some .eq) = decide (a = b) := by
  obtain ⟨i, hi⟩ := read_F a ha
  obtain ⟨j, hj⟩ := read_F b hb
  unfold Format.order
  rw [hi, hj]
  simp only [Datum.order]
  have hmin : min (-(i : Int)) (-(j : Int)) = -((max i j : Nat) : Int) := by omega
  rw [hmin]
  have e1 : (-(i : Int) - -((max i j : Nat) : Int)).toNat = max i j - i := by omega
  have e2 : (-(j : Int) - -((max i j : Nat) : Int)).toNat = max i j - j := by omega
  rw [e1, e2, signed_eq, signed_eq, show i + (max i j - i) = max i j by omega, show j + (max i j - j) = max i j by omega]
  have hp : (0 : Int) < (2 ^ max i j : Nat) := by exact_mod_cast Nat.two_pow_pos _
  generalize ((2 ^ max i j : Nat) : Int) = p at hp
  by_cases h : a = b
  · subst h; simp [compare, compareOfLessAndEq]
  · have hne : a * p ≠ b * p := fun e => h (Int.eq_of_mul_eq_mul_right (by omega) e)
    simp only [compare, compareOfLessAndEq, hne, h, if_false]
    split <;> simp
theorem ofInt_F (n : Int) (h : n.natAbs < 2 ^ 53) : FloatKind.f64.nearest n = F n := by
  unfold FloatKind.nearest FloatKind.encode
  exact write_F n 0 _ h rfl _ (by simp)
theorem neg_F : ∀ n : Fin 251, (double.read (Op.negFloat .f64 (F (n.val : Int)))).toInt .zero = some (-(n.val : Int)) := by decide +kernel
end Go.Proofs.YtlpadffinfijgaaW.Fl
