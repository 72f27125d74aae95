/- SeedSpread holds: of at most 60 children all seeds are unlike, and so are the draws' numbers. No conditions. -/
import Derived.Test.YtlkmomkpdmmjkaaPSeedSpreadx3
import Derived.Test.YtlkmomkpdmmjkaaSeedLaw
import Derived.OpenShut
set_option linter.unusedSimpArgs false
set_option linter.unusedVariables false
namespace Go.Proofs.Ytlkmomkpdmmjkaa.Pure.SeedSpreadPlain
open Go Go.RowKit Go.Proofs.Ytlkmomkpdmmjkaa.PSeedSpread Go.Proofs.Ytlkmomkpdmmjkaa.SeedLaw Go.Proofs.YtlkmomkpdmmjkaaW.PrintWords Go.Proofs.YtlkmomkpdmmjkaaW.PrintLast

-- plain laws of the printed functions of seed, for all k from 8 on
theorem may_f (n : Int) : seed_may.f n = some (isS n) := by
  unfold seed_may.f isS
  by_cases h : n ≥ 0
  · rw [if_pos h]; congr 1; rw [decide_eq_decide]; constructor
    · intro h2; exact ⟨h, h2⟩
    · intro h2; exact h2.2
  · rw [if_neg h]; congr 1; symm; rw [decide_eq_false_iff_not]; intro h2; exact h h2.1
theorem is_f (n : Int) : transhumanceref05_Is.f n = some (isS n) := by
  unfold transhumanceref05_Is.f isS
  by_cases h : n ≥ 0
  · rw [if_pos h]; congr 1; rw [decide_eq_decide]; constructor
    · intro h2; exact ⟨h, by omega⟩
    · intro h2; omega
  · rw [if_neg h]; congr 1; symm; rw [decide_eq_false_iff_not]; intro h2; exact h h2.1
theorem isS_true {n : Int} (h : isS n = true) : ∃ m : Nat, n = m ∧ m < 4294967296 := by
  unfold isS at h
  have := of_decide_eq_true h
  exact ⟨n.toNat, by omega, by omega⟩
theorem isS_nat {m : Nat} (h : m < 4294967296) : isS (m : Int) = true := by
  unfold isS; exact decide_eq_true (by omega)

theorem mix_j (k : Nat) (s n : Nat) (hs : s < 4294967296) : seed_Mix.j0 (k + 4) s n false = some (mix s n : Int) := by
  have h1 : ((((n : Int) % 4294967296) + 1) % 4294967296 * 2654435761) % 4294967296 = ((G n : Nat) : Int) := by unfold G; omega
  have h2 : (s : Int) % 4294967296 = (s : Nat) := by omega
  have e1 : wrap64 (0 + 1) = 1 := by unfold wrap64; omega
  have e2 : wrap64 (1 + 1) = 2 := by unfold wrap64; omega
  have f15 : ∀ x : Nat, x < 4294967296 → Go.bits .xor .u32 (x : Int) ((x : Int) / 32768) = ((fold 15 x : Nat) : Int) := fun x h => xor_u32_div x 15 h
  have f13 : ∀ x : Nat, x < 4294967296 → Go.bits .xor .u32 (x : Int) ((x : Int) / 8192) = ((fold 13 x : Nat) : Int) := fun x h => xor_u32_div x 13 h
  have m1 : ∀ x : Nat, ((x : Int) * 2246822507) % 4294967296 = ((M x : Nat) : Int) := fun x => by unfold M; omega
  have l0 := xor_lt s (G n) hs (G_lt n)
  rw [show k + 4 = (k + 3) + 1 from rfl, seed_Mix.j0, if_neg (by decide), h1, h2, xor_u32 _ _ hs (G_lt n)]
  rw [show k + 3 = (k + 2) + 1 from rfl, seed_Mix.l0, if_pos (by decide), f15 _ l0, m1, e1]
  rw [show k + 2 = (k + 1) + 1 from rfl, seed_Mix.l0, if_pos (by decide), f15 _ (M_lt _), m1, e2]
  rw [seed_Mix.l0, if_neg (by decide), f13 _ (M_lt _)]
  have l1 : fold 13 (M (fold 15 (M (fold 15 (s ^^^ G n))))) < 4294967296 := mix_lt s n
  have w : wrap64 ((fold 13 (M (fold 15 (M (fold 15 (s ^^^ G n)))))  : Nat) : Int) = (fold 13 (M (fold 15 (M (fold 15 (s ^^^ G n))))) : Nat) := by
    unfold wrap64; omega
  rw [w, mix_def]
theorem mix_f (k : Nat) (s n : Int) : seed_Mix.f (k + 4) s n = some (mixI s n) := by
  unfold seed_Mix.f mixI
  rw [may_f, may_f]
  simp only [Option.bind_some]
  by_cases h1 : isS s = true
  · rw [if_pos h1]
    by_cases h2 : isS n = true
    · obtain ⟨a, rfl, ha⟩ := isS_true h1
      obtain ⟨b, rfl, hb⟩ := isS_true h2
      rw [h1, h2]
      exact mix_j k a b ha
    · rw [Bool.eq_false_iff.2 h2]; rw [show (isS s && false) = false from Bool.and_false _]
      show seed_Mix.j0 (k + 4) s n true = _
      rw [seed_Mix.j0]; rfl
  · rw [if_neg h1, Bool.eq_false_iff.2 h1]
    show seed_Mix.j0 (k + 4) s n true = _
    rw [seed_Mix.j0]; rfl

theorem tmod_nat (a b : Nat) : Int.tmod (a : Int) (b : Int) = ((a % b : Nat) : Int) := by
  rw [Int.tmod_eq_emod_of_nonneg (by omega)]; omega
theorem tmod_all (a : Nat) : Int.tmod (a : Int) 4294967296 = ((a % 4294967296 : Nat) : Int) := tmod_nat a 4294967296
theorem times_G (x : Nat) (hx : x < 4294967296) : transhumanceref05_times.f (x : Int) 2654435761 = some ((x * 2654435761 % 4294967296 : Nat) : Int) := by
  unfold transhumanceref05_times.f
  have d : Int.tdiv 2654435761 65536 = 40503 := by decide
  have e : Int.tmod 2654435761 65536 = 31153 := by decide
  have w0 : wrap64 40503 = 40503 := by unfold wrap64; omega
  rw [d, e, w0]
  have w1 : wrap64 ((x : Int) * 40503) = ((x * 40503 : Nat) : Int) := by unfold wrap64; omega
  have w2 : wrap64 ((x : Int) * 31153) = ((x * 31153 : Nat) : Int) := by unfold wrap64; omega
  rw [w1, w2, tmod_all]
  have w3 : wrap64 (((x * 40503 % 4294967296 : Nat) : Int) * 65536) = ((x * 40503 % 4294967296 * 65536 : Nat) : Int) := by unfold wrap64; omega
  rw [w3]
  have w4 : wrap64 (((x * 31153 : Nat) : Int) + ((x * 40503 % 4294967296 * 65536 : Nat) : Int)) = ((x * 31153 + x * 40503 % 4294967296 * 65536 : Nat) : Int) := by unfold wrap64; omega
  have e5 : (x * 31153 + x * 40503 % 4294967296 * 65536) % 4294967296 = x * 2654435761 % 4294967296 := by omega
  rw [w4, tmod_all, e5]
theorem times_M (x : Nat) (hx : x < 4294967296) : transhumanceref05_times.f (x : Int) 2246822507 = some ((M x : Nat) : Int) := by
  unfold transhumanceref05_times.f
  have d : Int.tdiv 2246822507 65536 = 34283 := by decide
  have e : Int.tmod 2246822507 65536 = 51819 := by decide
  have w0 : wrap64 34283 = 34283 := by unfold wrap64; omega
  rw [d, e, w0]
  have w1 : wrap64 ((x : Int) * 34283) = ((x * 34283 : Nat) : Int) := by unfold wrap64; omega
  have w2 : wrap64 ((x : Int) * 51819) = ((x * 51819 : Nat) : Int) := by unfold wrap64; omega
  rw [w1, w2, tmod_all]
  have w3 : wrap64 (((x * 34283 % 4294967296 : Nat) : Int) * 65536) = ((x * 34283 % 4294967296 * 65536 : Nat) : Int) := by unfold wrap64; omega
  rw [w3]
  have w4 : wrap64 (((x * 51819 : Nat) : Int) + ((x * 34283 % 4294967296 * 65536 : Nat) : Int)) = ((x * 51819 + x * 34283 % 4294967296 * 65536 : Nat) : Int) := by unfold wrap64; omega
  have e5 : (x * 51819 + x * 34283 % 4294967296 * 65536) % 4294967296 = x * 2246822507 % 4294967296 := by omega
  rw [w4, tmod_all, e5, M_def]
theorem rmix_s (k : Nat) (s n : Int) (r : Option Int) (a b c : Int) (h1 : transhumanceref05_times.f (Int.tmod (wrap64 (n + 1)) 4294967296) 2654435761 = some a)
    (h2 : transhumanceref05_times.f (Go.bits .xor .i64 (Go.bits .xor .i64 s a) (wrap64 (Int.tdiv (Go.bits .xor .i64 s a) 32768))) 2246822507 = some b)
    (h3 : transhumanceref05_times.f (Go.bits .xor .i64 b (wrap64 (Int.tdiv b 32768))) 2246822507 = some c)
    (h4 : some (Go.bits .xor .i64 c (wrap64 (Int.tdiv c 8192))) = r) : transhumanceref05_Mix.j0 (k + 1) s n false = r := by
  rw [transhumanceref05_Mix.j0, if_neg (by decide), h1, Option.bind_some, h2, Option.bind_some, h3, Option.bind_some, h4]
theorem rdv (x j : Nat) (h : x < 4294967296) : wrap64 (Int.tdiv (x : Int) ((2 ^ j : Nat) : Int)) = ((x / 2 ^ j : Nat) : Int) := by
  rw [Int.tdiv_eq_ediv_of_nonneg (by omega), ← Int.natCast_ediv]
  have hd := Nat.div_le_self x (2 ^ j)
  generalize x / 2 ^ j = y at hd
  unfold wrap64; omega
theorem rf15 (x : Nat) (h : x < 4294967296) : Go.bits .xor .i64 (x : Int) (wrap64 (Int.tdiv (x : Int) 32768)) = ((fold 15 x : Nat) : Int) := by
  rw [show (32768 : Int) = ((2 ^ 15 : Nat) : Int) from rfl, rdv x 15 h, xor_i64 _ _ h (Nat.lt_of_le_of_lt (Nat.div_le_self _ _) h)]; rfl
theorem rf13 (x : Nat) (h : x < 4294967296) : Go.bits .xor .i64 (x : Int) (wrap64 (Int.tdiv (x : Int) 8192)) = ((fold 13 x : Nat) : Int) := by
  rw [show (8192 : Int) = ((2 ^ 13 : Nat) : Int) from rfl, rdv x 13 h, xor_i64 _ _ h (Nat.lt_of_le_of_lt (Nat.div_le_self _ _) h)]; rfl
theorem rplus (n : Nat) (hn : n < 4294967296) : Int.tmod (wrap64 ((n : Int) + 1)) 4294967296 = (((n + 1) % 4294967296 : Nat) : Int) := by
  have : wrap64 ((n : Int) + 1) = ((n + 1 : Nat) : Int) := by unfold wrap64; omega
  rw [this, tmod_all]
theorem rG (n : Nat) (hn : n < 4294967296) : transhumanceref05_times.f (Int.tmod (wrap64 ((n : Int) + 1)) 4294967296) 2654435761 = some ((G n : Nat) : Int) := by
  rw [rplus n hn, times_G _ (Nat.mod_lt _ (by decide)), ← G_def]
theorem rmix_j (k : Nat) (s n : Nat) (hs : s < 4294967296) (hn : n < 4294967296) : transhumanceref05_Mix.j0 (k + 1) s n false = some (mix s n : Int) := by
  have l0 := xor_lt s (G n) hs (G_lt n)
  refine rmix_s k s n _ _ ((M (fold 15 (s ^^^ G n)) : Nat) : Int) ((M (fold 15 (M (fold 15 (s ^^^ G n)))) : Nat) : Int) (rG n hn) ?_ ?_ ?_
  · rw [xor_i64 _ _ hs (G_lt n), rf15 _ l0, times_M _ (fold_lt _ _ l0)]
  · rw [rf15 _ (M_lt _), times_M _ (fold_lt _ _ (M_lt _))]
  · rw [rf13 _ (M_lt _), mix_def]
theorem rmix_f (k : Nat) (s n : Int) : transhumanceref05_Mix.f (k + 1) s n = some (mixI s n) := by
  unfold transhumanceref05_Mix.f mixI
  rw [is_f, is_f]
  simp only [Option.bind_some]
  by_cases h1 : isS s = true
  · rw [if_pos h1]
    by_cases h2 : isS n = true
    · obtain ⟨a, rfl, ha⟩ := isS_true h1
      obtain ⟨b, rfl, hb⟩ := isS_true h2
      rw [h1, h2]
      exact rmix_j k a b ha hb
    · rw [Bool.eq_false_iff.2 h2]; rw [show (isS s && false) = false from Bool.and_false _]
      show transhumanceref05_Mix.j0 (k + 1) s n true = _
      rw [transhumanceref05_Mix.j0]; rfl
  · rw [if_neg h1, Bool.eq_false_iff.2 h1]
    show transhumanceref05_Mix.j0 (k + 1) s n true = _
    rw [transhumanceref05_Mix.j0]; rfl
theorem mixI_nat (s n : Nat) (hs : s < 4294967296) (hn : n < 4294967296) : mixI s n = (mix s n : Nat) := by
  unfold mixI; rw [isS_nat hs, isS_nat hn]; rfl
theorem mixI_bd (s n : Int) : 0 ≤ mixI s n ∧ mixI s n < 4294967296 := by
  unfold mixI
  split
  · have := mix_lt s.toNat n.toNat; omega
  · omega
theorem isS_mixI (s n : Int) : isS (mixI s n) = true := by
  have := mixI_bd s n
  unfold isS; exact decide_eq_true (by omega)
theorem of_f (k : Nat) (s w n : Int) : seed_of.f (k + 4) s w n = some (mixI (mixI s w) n, isS s && isS n) := by
  unfold seed_of.f
  rw [mix_f]; simp only [Option.bind_some]; rw [mix_f, may_f]; simp only [Option.bind_some]
  by_cases h1 : isS s = true
  · rw [if_pos h1, may_f, h1]; rfl
  · rw [if_neg h1, Bool.eq_false_iff.2 h1]; rfl
theorem childI_eq (s n : Int) : childI s n = if isS s && isS n then mixI (mixI s 1) n else 0 := by
  unfold childI
  by_cases h : (isS s && isS n) = true
  · rw [if_pos h, if_pos h]
    have h1 := (Bool.and_eq_true_iff.1 h).1
    have h2 := (Bool.and_eq_true_iff.1 h).2
    obtain ⟨a, rfl, ha⟩ := isS_true h1
    obtain ⟨b, rfl, hb⟩ := isS_true h2
    rw [show (1 : Int) = ((1 : Nat) : Int) from rfl, mixI_nat _ _ ha (by decide), mixI_nat _ _ (mix_lt _ _) hb]; rfl
  · rw [if_neg h, if_neg h]
theorem child_f (k : Nat) (s n : Int) : seed_Child.f (k + 4) s n = some (childI s n) := by
  unfold seed_Child.f
  rw [of_f, childI_eq]; simp only [Option.bind_some]
  split <;> rfl
theorem rchild_f (k : Nat) (s n : Int) : transhumanceref05_Child.f (k + 2) s n = some (childI s n) := by
  unfold transhumanceref05_Child.f
  rw [is_f, is_f, childI_eq]
  simp only [Option.bind_some]
  have t : transhumanceref05_Child.j0 (k + 2) s n true = some 0 := by rw [show k + 2 = (k + 1) + 1 from rfl, transhumanceref05_Child.j0]; rfl
  have f : transhumanceref05_Child.j0 (k + 2) s n false = some (mixI (mixI s 1) n) := by
    rw [show k + 2 = (k + 1) + 1 from rfl, transhumanceref05_Child.j0, if_neg (by decide), rmix_f]; simp only [Option.bind_some]; rw [rmix_f]; rfl
  by_cases h1 : isS s = true
  · rw [if_pos h1, h1]
    by_cases h2 : isS n = true
    · rw [h2]; exact f
    · rw [Bool.eq_false_iff.2 h2]; exact t
  · rw [if_neg h1, Bool.eq_false_iff.2 h1]; exact t
theorem rest_f (n : Int) (h : 0 ≤ n) : gauss_rest.f n = some (n % 251) := by
  unfold gauss_rest.f
  rw [Int.tmod_eq_emod_of_nonneg h]
  have : wrap64 (n % 251 + 251) = n % 251 + 251 := by unfold wrap64; omega
  rw [this, Int.tmod_eq_emod_of_nonneg (by omega)]
  congr 1; omega
theorem rrest_f (n : Int) (h : 0 ≤ n) : transhumanceref04_Rest.f n = some (n % 251) := by
  unfold transhumanceref04_Rest.f
  rw [Int.tmod_eq_emod_of_nonneg h]
  rw [if_neg (by omega)]
def drawJ (s n : Int) : Int × Int := if isS s && isS n then (mixI (mixI s 2) n % 251, mixI (mixI s 2) n / 65536 % 251) else (0, 0)
theorem draw_f (k : Nat) (s n : Int) : seed_Draw.f (k + 4) s n = some (drawJ s n) := by
  unfold seed_Draw.f drawJ
  rw [of_f]; simp only [Option.bind_some]
  have hb := mixI_bd (mixI s 2) n
  by_cases h : (isS s && isS n) = true
  · rw [if_pos h, if_pos h]
    unfold gauss_Of.f
    rw [rest_f _ hb.1, rest_f _ (by omega)]; rfl
  · rw [if_neg h, if_neg h]
theorem rdraw_f (k : Nat) (s n : Int) : transhumanceref05_Draw.f (k + 2) s n = some (drawJ s n) := by
  unfold transhumanceref05_Draw.f drawJ
  rw [is_f, is_f]
  simp only [Option.bind_some]
  have hb := mixI_bd (mixI s 2) n
  have t : transhumanceref05_Draw.j0 (k + 2) s n true = some (0, 0) := by rw [show k + 2 = (k + 1) + 1 from rfl, transhumanceref05_Draw.j0]; rfl
  have f : transhumanceref05_Draw.j0 (k + 2) s n false = some (mixI (mixI s 2) n % 251, mixI (mixI s 2) n / 65536 % 251) := by
    rw [show k + 2 = (k + 1) + 1 from rfl, transhumanceref05_Draw.j0, if_neg (by decide), rmix_f]; simp only [Option.bind_some]; rw [rmix_f]; simp only [Option.bind_some]
    have w : wrap64 (Int.tdiv (mixI (mixI s 2) n) 65536) = mixI (mixI s 2) n / 65536 := by
      rw [Int.tdiv_eq_ediv_of_nonneg hb.1]; unfold wrap64; omega
    rw [w]
    unfold transhumanceref04_Of.f
    rw [rrest_f _ hb.1, rrest_f _ (by omega)]; rfl
  by_cases h1 : isS s = true
  · rw [if_pos h1, h1]
    by_cases h2 : isS n = true
    · rw [h2]; exact f
    · rw [Bool.eq_false_iff.2 h2]; exact t
  · rw [if_neg h1, Bool.eq_false_iff.2 h1]; exact t
theorem fixed_f (k : Nat) : transhumancelaw05_fixed.f (k + 4) = some true := by
  unfold transhumancelaw05_fixed.f
  simp only [mix_f, child_f, draw_f, show k + 4 = (k + 3) + 1 from rfl, rmix_f]
  simp only [show k + 3 + 1 = k + 2 + 2 from rfl, rchild_f, rdraw_f]
  simp only [Option.bind_some]
  have c0 : mixI 0 4294967295 = 0 := by decide +kernel
  have c1 : ¬ mixI 1 4294967295 = 0 := by decide +kernel
  have c2 : mixI (-1) 0 = 0 := by decide +kernel
  have c3 : mixI 0 4294967296 = 0 := by decide +kernel
  have c4 : ¬ childI 7 3 = childI 7 4 := by decide +kernel
  have c5 : drawJ (-1) 0 = (0, 0) := by decide +kernel
  have c6 : childI 7 (-1) = 0 := by decide +kernel
  rw [if_pos c0, if_neg c1, if_pos c2, if_pos c3, if_neg c4, c5, c6]
  simp
theorem childI_nat (s k : Nat) (hs : s < 4294967296) (hk : k < 4294967296) : childI s k = (child s k : Nat) := by
  unfold childI; rw [isS_nat hs, isS_nat hk]; rfl
/-- the list after n rounds -/
def acc (s : Nat) : Nat → List Int
  | 0 => []
  | n + 1 => acc s n ++ [(child s n : Int), (mix s n : Int)]
theorem acc_len (s n : Nat) : (acc s n).length = 2 * n := by
  induction n with
  | zero => rfl
  | succ n ih => simp [acc, ih]; omega
theorem acc_get (s : Nat) (n i : Nat) (h : i < n) : (acc s n)[2 * i]? = some (child s i : Int) ∧ (acc s n)[2 * i + 1]? = some (mix s i : Int) := by
  induction n with
  | zero => omega
  | succ n ih =>
    have hl := acc_len s n
    unfold acc
    by_cases e : i < n
    · rw [List.getElem?_append_left (by omega), List.getElem?_append_left (by omega)]
      exact ih e
    · have : i = n := by omega
      subst this
      rw [List.getElem?_append_right (by omega), List.getElem?_append_right (by omega), hl, show 2 * i - 2 * i = 0 by omega, show 2 * i + 1 - 2 * i = 1 by omega]
      exact ⟨rfl, rfl⟩
theorem acc_rd (s : Nat) (n i : Nat) (h : i < n) : rd (acc s n) (2 * i : Nat) = (child s i : Int) ∧ rd (acc s n) (2 * i + 1 : Nat) = (mix s i : Int) := by
  have := acc_get s n i h
  unfold rd
  rw [List.getD_eq_getElem?_getD, List.getD_eq_getElem?_getD, Int.toNat_natCast, Int.toNat_natCast, this.1, this.2]
  exact ⟨rfl, rfl⟩
theorem inner (s : Nat) (m : Int) (n : Nat) (hs : s < 4294967296) (hn : n < 60) (r : Option Bool) (k : Nat)
    (hr : ∀ j, k ≤ j → transhumancelaw05_SeedSpread.l0 j s m (acc s (n + 1)) ((n + 1 : Nat) : Int) = r) :
    ∀ (d i : Nat), i + d = n → transhumancelaw05_SeedSpread.l1 (k + d + 1) s m (acc s n) n (child s n : Int) (mix s n : Int) ((2 * i : Nat) : Int) = r := by
  intro d
  induction d with
  | zero =>
    intro i hi
    have hl := acc_len s n
    have w : wrap64 ((n : Int) + 1) = ((n + 1 : Nat) : Int) := by unfold wrap64; omega
    rw [show k + 0 + 1 = k + 1 from rfl]
    rw [transhumancelaw05_SeedSpread.l1, if_neg (by rw [hl]; omega)]
    simp only [Option.bind_some]
    rw [if_pos (by simp [hl]; omega), w]
    exact hr k (Nat.le_refl _)
  | succ d ih =>
    intro i hi
    have hl := acc_len s n
    have hq := acc_rd s n i (by omega)
    have w1 : wrap64 (((2 * i : Nat) : Int) + 1) = ((2 * i + 1 : Nat) : Int) := by unfold wrap64; omega
    have w2 : wrap64 (((2 * i : Nat) : Int) + 2) = ((2 * (i + 1) : Nat) : Int) := by unfold wrap64; omega
    have n1 : ¬ child s i = child s n := fun h => by have := child_num s i n (by omega) (by omega) h; omega
    have n2 : ¬ mix s i = mix s n := fun h => by have := mix_num s i n hs (by omega) (by omega) h; omega
    rw [show k + (d + 1) + 1 = (k + d + 1) + 1 from rfl]
    rw [transhumancelaw05_SeedSpread.l1, if_pos (by rw [hl]; omega), if_pos (by omega), hq.1, if_neg (by omega), w1, if_pos (by omega), if_pos (by rw [hl]; omega), hq.2, if_neg (by omega), w2]
    exact ih (i + 1) (by omega)
theorem outer (s : Nat) (hs : s < 4294967296) (m : Nat) (hm : m ≤ 60) : ∀ (d n : Nat), n + d = m → ∀ j, 70 * d + 5 ≤ j →
    transhumancelaw05_SeedSpread.l0 j s m (acc s n) n = some true := by
  intro d
  induction d with
  | zero =>
    intro n hn j hj
    obtain ⟨j, rfl⟩ : ∃ q, j = q + 1 := ⟨j - 1, by omega⟩
    rw [transhumancelaw05_SeedSpread.l0, if_neg (by omega)]
  | succ d ih =>
    intro n hn j hj
    obtain ⟨j, rfl⟩ : ∃ q, j = (q + 4) + 1 := ⟨j - 5, by omega⟩
    rw [transhumancelaw05_SeedSpread.l0, if_pos (by omega), child_f, mix_f]
    simp only [Option.bind_some]
    rw [childI_nat _ _ hs (by omega), mixI_nat _ _ hs (by omega)]
    have := inner s m n hs (by omega) (some true) (j + 4 - n - 1) (fun q hq => ih (n + 1) (by omega) q (by omega)) n 0 (by omega)
    rw [show j + 4 - n - 1 + n + 1 = j + 4 by omega] at this
    exact this
theorem law : transhumancelaw05_SeedSpread.Pure := by
  intro a n _ _
  refine ⟨4300 + 4, ?_⟩
  unfold transhumancelaw05_SeedSpread.f
  have t : transhumancelaw05_SeedSpread.j0 (4300 + 4) a n true = some true := by
    show transhumancelaw05_SeedSpread.j0 (4299 + 4 + 1) a n true = _
    rw [transhumancelaw05_SeedSpread.j0, if_pos rfl, fixed_f]; rfl
  rw [fixed_f, is_f]
  simp only [Option.bind_some, if_true]
  by_cases h1 : isS a = true
  · rw [if_pos h1]
    by_cases h2 : n < 0
    · rw [if_pos h2]; exact t
    · rw [if_neg h2]
      by_cases h3 : n > 60
      · rw [decide_eq_true h3]; exact t
      · rw [decide_eq_false h3]
        obtain ⟨a, rfl, ha⟩ := isS_true h1
        obtain ⟨n, rfl⟩ := Int.eq_ofNat_of_zero_le (by omega : 0 ≤ n)
        show transhumancelaw05_SeedSpread.j0 (4303 + 1) a n false = _
        rw [transhumancelaw05_SeedSpread.j0, if_neg (by decide)]
        exact outer a ha n (by omega) n 0 (by omega) 4303 (by omega)
  · rw [if_neg h1]; exact t

end Go.Proofs.Ytlkmomkpdmmjkaa.Pure.SeedSpreadPlain
namespace Go.Proofs.Ytlkmomkpdmmjkaa.Pure
theorem SeedSpread : Go.Proofs.Ytlkmomkpdmmjkaa.PSeedSpread.transhumancelaw05_SeedSpread.Pure := SeedSpreadPlain.law
end Go.Proofs.Ytlkmomkpdmmjkaa.Pure
