/- OpTells holds: names, fields, stacks, numbers and valid instructions are the document's. No conditions. -/
import Derived.Test.YtlkmomkpdmmjkaaWfOpTells
set_option linter.unusedSimpArgs false
set_option linter.unusedVariables false
namespace Go.Proofs.Ytlkmomkpdmmjkaa.Pure.OpTellsPlain
open Go Go.RowKit Go.Proofs.Ytlkmomkpdmmjkaa.POpTells Go.Proofs.YtlkmomkpdmmjkaaW.PrintWords Go.Proofs.YtlkmomkpdmmjkaaW.PrintLast

theorem fixed_f : transhumancelaw06_fixed.f 8 = some true := by decide +kernel
theorem num_out {a : Int} (h : ¬ (0 ≤ a ∧ a < 17)) : opNum a = 17 := by unfold opNum; rw [if_neg h]
/-- the least and greatest numbers of an operation's fields -/
def rng : Nat → Int × Int × Int × Int
  | 0 => (0, 250, 0, 250)
  | 1 => (0, 15, 0, 0)
  | 2 => (0, 15, 0, 0)
  | 10 => (0, 199, 0, 0)
  | 11 => (0, 199, 0, 0)
  | 13 => (0, 15, 0, 7)
  | 14 => (0, 7, 0, 0)
  | 16 => (16, 255, 0, 0)
  | _ => (0, 0, 0, 0)
theorem spans_in : ∀ m, m < 17 → op_spans.f 5 (m : Nat) = some (rng m) := by decide +kernel
theorem spans_out {a : Int} (h : ¬ (0 ≤ a ∧ a < 17)) : op_spans.f 5 a = some (0, 0, 0, 0) := by
  have h0 : ¬ a = 0 := by omega
  have h1 : ¬ a = 1 := by omega
  have h2 : ¬ a = 2 := by omega
  have h10 : ¬ a = 10 := by omega
  have h11 : ¬ a = 11 := by omega
  have h13 : ¬ a = 13 := by omega
  have h14 : ¬ a = 14 := by omega
  have h16 : ¬ a = 16 := by omega
  simp [op_spans.f, op_spans.j0, op_spans.j1, h0, h1, h2, h10, h11, h13, h14, h16]
theorem spans_f (a : Int) (k : Nat) (hk : 5 ≤ k) : op_spans.f k a = some (rng (opNum a)) := by
  refine at_rounds (g := fun k => op_spans.f k a) (fun k => op_spans.mono a k) hk ?_
  by_cases h : 0 ≤ a ∧ a < 17
  · obtain ⟨m, rfl, hm, he⟩ := opNum_lt a h
    rw [he]; exact spans_in m hm
  · rw [num_out h]; exact spans_out h
/-- may this instruction be? -/
def mayB (o a b : Int) : Bool := decide (0 ≤ o ∧ o < 17) && (decide ((rng (opNum o)).1 ≤ a ∧ a ≤ (rng (opNum o)).2.1) && decide ((rng (opNum o)).2.2.1 ≤ b ∧ b ≤ (rng (opNum o)).2.2.2))
theorem has_f (l h n : Int) : op_span_has.f l h n = some (decide (l ≤ n ∧ n ≤ h)) := by
  unfold op_span_has.f
  by_cases h1 : l ≤ n
  · rw [if_pos h1]; simp [h1]
  · rw [if_neg h1]; simp [h1]
theorem may_f (o a b : Int) (k : Nat) (hk : 5 ≤ k) : op_May.f k o a b = some (mayB o a b) := by
  unfold op_May.f mayB
  rw [spans_f o k hk]
  simp only [Option.bind_some, has_f]
  by_cases h1 : o ≥ 0
  · rw [if_pos h1]
    by_cases h2 : o < 17
    · rw [if_pos h2, decide_eq_true (p := 0 ≤ o ∧ o < 17) ⟨h1, h2⟩]
      by_cases h3 : (rng (opNum o)).1 ≤ a ∧ a ≤ (rng (opNum o)).2.1
      · rw [decide_eq_true h3, if_pos rfl, Bool.true_and, Bool.true_and]
      · rw [decide_eq_false h3, if_neg (by decide), Bool.true_and, Bool.false_and]
    · rw [if_neg h2, decide_eq_false (p := 0 ≤ o ∧ o < 17) (fun h => h2 h.2)]; rfl
  · rw [if_neg h1, decide_eq_false (p := 0 ≤ o ∧ o < 17) (fun h => h1 h.1)]; rfl
theorem fields_f (a : Int) : op_Fields.f a = some (opFields (opNum a)) := rfl
theorem fixed_k (k : Nat) (hk : 8 ≤ k) : transhumancelaw06_fixed.f k = some true := at_rounds (g := fun k => transhumancelaw06_fixed.f k) (fun k => transhumancelaw06_fixed.mono k) hk fixed_f
def namesL : List ByteArray := [⟨#[112, 117, 115, 104]⟩, ⟨#[108, 111, 97, 100]⟩, ⟨#[115, 116, 111, 114, 101]⟩, ⟨#[97, 100, 100]⟩, ⟨#[115, 117, 98]⟩, ⟨#[109, 117, 108]⟩, ⟨#[100, 105, 118]⟩, ⟨#[99, 111, 110, 106]⟩, ⟨#[100, 117, 112]⟩, ⟨#[100, 114, 111, 112]⟩, ⟨#[106, 117, 109, 112]⟩, ⟨#[122, 101, 114, 111]⟩, ⟨#[114, 97, 110, 100]⟩, ⟨#[115, 112, 97, 119, 110]⟩, ⟨#[106, 111, 105, 110]⟩, ⟨#[114, 101, 116]⟩, ⟨#[116, 114, 97, 112]⟩]
theorem names_f : transhumanceref06_names.f = some namesL := rfl
theorem names_rd : ∀ m, m < 17 → (rdOf ByteArray.empty namesL (m : Nat)) = opName m := by
  intro m hm
  match m, hm with
  | 0, _ => rfl | 1, _ => rfl | 2, _ => rfl | 3, _ => rfl | 4, _ => rfl | 5, _ => rfl | 6, _ => rfl | 7, _ => rfl | 8, _ => rfl
  | 9, _ => rfl | 10, _ => rfl | 11, _ => rfl | 12, _ => rfl | 13, _ => rfl | 14, _ => rfl | 15, _ => rfl | 16, _ => rfl
  | n + 17, h => omega
theorem name_f (a : Int) : transhumanceref06_Name.f a = some (opName (opNum a)) := by
  unfold transhumanceref06_Name.f
  by_cases h : 0 ≤ a ∧ a < 17
  · obtain ⟨m, rfl, hm, he⟩ := opNum_lt a h
    rw [he, if_neg (by omega), if_neg (by omega), names_f, Option.bind_some, if_pos (by omega), if_pos (by show (m : Int) < ((17 : Nat) : Int); omega), names_rd m hm]
  · rw [num_out h]
    by_cases h1 : a < 0
    · rw [if_pos h1]; rfl
    · rw [if_neg h1, if_pos (by omega)]; rfl
theorem find_l (s : ByteArray) (k : Nat) : ∀ d i : Nat, i + d = 17 → transhumanceref06_Find.l0 (k + d + 1) s namesL (i : Nat) = some (opFirst s d) := by
  intro d
  induction d with
  | zero =>
    intro i hi
    rw [show k + 0 + 1 = k + 1 from rfl, transhumanceref06_Find.l0, if_neg (by show ¬ (i : Int) < ((17 : Nat) : Int); omega)]; rfl
  | succ d ih =>
    intro i hi
    have w : wrap64 ((i : Int) + 1) = ((i + 1 : Nat) : Int) := by unfold wrap64; omega
    have e : 16 - d = i := by omega
    rw [show k + (d + 1) + 1 = (k + d + 1) + 1 from rfl, transhumanceref06_Find.l0, if_pos (by show (i : Int) < ((17 : Nat) : Int); omega), if_pos (by omega), names_rd i (by omega), w, ih (i + 1) (by omega)]
    rw [show opFirst s (d + 1) = if opHas s (16 - d) then ((16 - d : Nat) : Int) else opFirst s d from rfl, e]
    unfold opHas
    by_cases h : (opName i).toList = s.toList
    · rw [if_pos h, beq_iff_eq.2 h, if_pos rfl]
    · rw [if_neg h, beq_eq_false_iff_ne.2 h, if_neg (by decide)]
theorem find_f (s : ByteArray) : transhumanceref06_Find.f 20 s = some (opFirst s 17) := by
  unfold transhumanceref06_Find.f
  rw [names_f, Option.bind_some]
  exact find_l s 2 17 0 rfl
theorem rfields_in : ∀ m, m < 17 → transhumanceref06_Fields.f 20 (m : Nat) = some (opFields m) ∧ transhumanceref06_Off.f 20 (m : Nat) = some (opOff m) ∧ transhumanceref06_On.f (m : Nat) = some (opOn m) := by decide +kernel
theorem rfields_out {a : Int} (h : ¬ (0 ≤ a ∧ a < 17)) : transhumanceref06_Fields.f 20 a = some 0 ∧ transhumanceref06_Off.f 20 a = some 0 ∧ transhumanceref06_On.f a = some 0 := by
  have h0 : ¬ a = 0 := by omega
  have h1 : ¬ a = 1 := by omega
  have h2 : ¬ a = 2 := by omega
  have h3 : ¬ a = 3 := by omega
  have h4 : ¬ a = 4 := by omega
  have h5 : ¬ a = 5 := by omega
  have h6 : ¬ a = 6 := by omega
  have h7 : ¬ a = 7 := by omega
  have h8 : ¬ a = 8 := by omega
  have h9 : ¬ a = 9 := by omega
  have h10 : ¬ a = 10 := by omega
  have h11 : ¬ a = 11 := by omega
  have h12 : ¬ a = 12 := by omega
  have h13 : ¬ a = 13 := by omega
  have h14 : ¬ a = 14 := by omega
  have h15 : ¬ a = 15 := by omega
  have h16 : ¬ a = 16 := by omega
  refine ⟨?_, ?_, ?_⟩
  · simp [transhumanceref06_Fields.f, transhumanceref06_Fields.j0, h0, h1, h2, h10, h11, h13, h14, h16]
  · simp [transhumanceref06_Off.f, transhumanceref06_Off.j0, h2, h3, h4, h5, h6, h7, h8, h9, h11, h15]
  · simp [transhumanceref06_On.f, h0, h1, h3, h4, h5, h6, h7, h8, h12, h14]
theorem rfields (a : Int) : transhumanceref06_Fields.f 20 a = some (opFields (opNum a)) ∧ transhumanceref06_Off.f 20 a = some (opOff (opNum a)) ∧ transhumanceref06_On.f a = some (opOn (opNum a)) := by
  by_cases h : 0 ≤ a ∧ a < 17
  · obtain ⟨m, rfl, hm, he⟩ := opNum_lt a h
    rw [he]; exact rfields_in m hm
  · rw [num_out h]; exact rfields_out h
theorem rmost_in : ∀ m, m < 17 → (opFields m ≥ 1 → transhumanceref06_most.f 18 (m : Nat) 0 = some (rng m).2.1 ∧ transhumanceref06_most.f 19 (m : Nat) 0 = some (rng m).2.1) ∧ (opFields m ≥ 2 → transhumanceref06_most.f 18 (m : Nat) 1 = some (rng m).2.2.2) := by decide +kernel
theorem rng_facts : ∀ m, m < 17 → ((rng m).1 = if m = 16 then 16 else 0) ∧ (rng m).2.2.1 = 0 ∧ (opFields m < 1 → (rng m).2.1 = 0) ∧ (opFields m < 2 → (rng m).2.2.2 = 0) ∧ (m = 16 → opFields m = 1) := by decide +kernel
theorem rmay_j (m : Nat) (hm : m < 17) (n a b : Int) (hn : n = opFields m) (h : ¬ (a < 0 ∨ b < 0 ∨ n < 2 ∧ b ≠ 0 ∨ n < 1 ∧ a ≠ 0)) : transhumanceref06_May.j0 20 n false (m : Nat) a b = some (decide (((rng m).1 ≤ a ∧ a ≤ (rng m).2.1) ∧ ((rng m).2.2.1 ≤ b ∧ b ≤ (rng m).2.2.2))) := by
  obtain ⟨q1, q2, q3, q4, q5⟩ := rng_facts m hm
  obtain ⟨m1, m2⟩ := rmost_in m hm
  have key : ∀ t : Bool, (t = true → m = 16 ∧ a < 16) → (t = false → m = 16 → 16 ≤ a) → transhumanceref06_May.j1 19 n t (m : Nat) a b = some (decide (((rng m).1 ≤ a ∧ a ≤ (rng m).2.1) ∧ ((rng m).2.2.1 ≤ b ∧ b ≤ (rng m).2.2.2))) := by
    intro t ht hf
    rw [show 19 = 18 + 1 from rfl, transhumanceref06_May.j1]
    cases t with
    | true =>
      have := ht rfl
      rw [if_pos rfl, q1, if_pos this.1, decide_eq_false (by omega)]
    | false =>
      rw [if_neg (by decide)]
      have hf := hf rfl
      have lo : (rng m).1 ≤ a := by
        rw [q1]; split <;> omega
      by_cases n1 : n < 1
      · rw [if_pos n1, if_pos (by omega), decide_eq_true (by have := q3 (by omega); have := q4 (by omega); omega)]
      · rw [if_neg n1, (m1 (by omega)).1, Option.bind_some]
        by_cases ha : a ≤ (rng m).2.1
        · rw [if_pos ha]
          by_cases n2 : n < 2
          · rw [if_pos n2, decide_eq_true (by have := q4 (by omega); omega)]
          · rw [if_neg n2, m2 (by omega), Option.bind_some]
            congr 1; rw [decide_eq_decide]; omega
        · rw [if_neg ha, decide_eq_false (by omega)]
  rw [show 20 = 19 + 1 from rfl, transhumanceref06_May.j0, if_neg (by decide)]
  by_cases e : (m : Int) = 16
  · rw [if_pos e]
    by_cases h16 : a < 16
    · rw [decide_eq_true h16]; exact key true (fun _ => by omega) (fun h => by cases h)
    · rw [decide_eq_false h16]; exact key false (fun h => by cases h) (fun _ _ => by omega)
  · rw [if_neg e]; exact key false (fun h => by cases h) (fun _ _ => by omega)
theorem rmay_f (o a b : Int) : transhumanceref06_May.f 20 o a b = some (mayB o a b) := by
  have no : ∀ n, transhumanceref06_May.j0 20 n true o a b = some false := fun n => by
    rw [show 20 = 19 + 1 from rfl, transhumanceref06_May.j0, if_pos rfl]
  unfold transhumanceref06_May.f mayB
  rw [(rfields o).1, Option.bind_some, no]
  by_cases h : 0 ≤ o ∧ o < 17
  · rw [decide_eq_true h]
    obtain ⟨m, rfl, hm, he⟩ := opNum_lt o h
    rw [he]
    obtain ⟨q1, q2, q3, q4, q5⟩ := rng_facts m hm
    have lo : 0 ≤ (rng m).1 := by rw [q1]; split <;> omega
    rw [if_neg (by omega), if_neg (by omega)]
    have fls : ∀ p : Prop, [Decidable p] → ¬ p → (p → False) := fun p _ h => h
    by_cases h1 : a < 0
    · rw [if_pos h1, decide_eq_false (p := (rng m).1 ≤ a ∧ a ≤ (rng m).2.1) (by omega)]; rfl
    · rw [if_neg h1]
      by_cases h2 : b < 0
      · rw [if_pos h2, decide_eq_false (p := (rng m).2.2.1 ≤ b ∧ b ≤ (rng m).2.2.2) (by omega), Bool.and_false]; rfl
      · rw [if_neg h2]
        have fin : ¬ (a < 0 ∨ b < 0 ∨ opFields m < 2 ∧ b ≠ 0 ∨ opFields m < 1 ∧ a ≠ 0) → transhumanceref06_May.j0 20 (opFields m) false (m : Nat) a b = some (true && (decide ((rng m).1 ≤ a ∧ a ≤ (rng m).2.1) && decide ((rng m).2.2.1 ≤ b ∧ b ≤ (rng m).2.2.2))) := fun hh => by
          rw [rmay_j m hm _ a b rfl hh, Bool.true_and, Bool.decide_and]
        by_cases n2 : opFields m < 2
        · rw [if_pos n2]
          by_cases hb : b = 0
          · rw [if_pos hb]
            by_cases n1 : opFields m < 1
            · rw [if_pos n1]
              by_cases ha : a = 0
              · rw [bne_eq_false_iff_eq.2 ha]; exact fin (by omega)
              · rw [bne_iff_ne.2 ha, no, decide_eq_false (p := (rng m).1 ≤ a ∧ a ≤ (rng m).2.1) (by have := q3 n1; omega)]; rfl
            · rw [if_neg n1]; exact fin (by omega)
          · rw [if_neg hb, decide_eq_false (p := (rng m).2.2.1 ≤ b ∧ b ≤ (rng m).2.2.2) (by have := q4 n2; omega), Bool.and_false]; rfl
        · rw [if_neg n2, if_neg (by omega)]; exact fin (by omega)
  · rw [decide_eq_false h]
    by_cases h1 : o < 0
    · rw [if_pos h1]; rfl
    · rw [if_neg h1, if_pos (by omega)]; rfl
theorem law : transhumancelaw06_OpTells.Pure := by
  intro n s x _ _ _
  obtain ⟨o, a, b⟩ := x
  refine ⟨20, ?_⟩
  show transhumancelaw06_OpTells.f 20 n s o a b = some true
  unfold transhumancelaw06_OpTells.f op_Find.f op_Stack.f op_Name.f
  rw [fixed_k 20 (by omega), find_f, name_f, fields_f, (rfields n).1, (rfields n).2.1, (rfields n).2.2, may_f _ _ _ 20 (by omega), rmay_f]
  simp only [Option.bind_some, if_true]
  have e : (if opFirst s 17 < 0 then 0 else opFirst s 17) = mx (opFirst s 17) 0 := by unfold mx; rfl
  rw [e]
  simp

end Go.Proofs.Ytlkmomkpdmmjkaa.Pure.OpTellsPlain
namespace Go.Proofs.Ytlkmomkpdmmjkaa.Pure
theorem OpTells : Go.Proofs.Ytlkmomkpdmmjkaa.POpTells.transhumancelaw06_OpTells.Pure := OpTellsPlain.law
end Go.Proofs.Ytlkmomkpdmmjkaa.Pure
