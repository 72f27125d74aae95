/- How programs, instructions and lists lie in the machine of plain values. No conditions. -/
import Derived.Test.YtlpadffinfijgaaVmPre
import Derived.Test.YtlpadffinfijgaaVmMM
set_option linter.unusedVariables false
set_option linter.unusedSimpArgs false
namespace Go.Proofs.YtlpadffinfijgaaW.Rg
open Go.Proofs.YtlpadffinfijgaaW.Vm Go.Proofs.YtlpadffinfijgaaW.Md
open Go Go.Proofs
/-- a list as a slice; none: the nil one -/
def encL {α : Type} (z : Nat) (e : α → D) : Option (List α) → D
  | none => .snil
  | some l => .sl z (l.map e) false
section
variable {α : Type} {z : Nat} {e : α → D}
@[simp] theorem lenS_encL (b : Option (List α)) : lenS (encL z e b) = some (b.getD []).length := by cases b <;> simp [encL]
@[simp] theorem one_encL (b : Option (List α)) : D.one (encL z e b) = true := by cases b <;> simp [encL]
@[simp] theorem cells_encL (b : Option (List α)) : D.cells (encL z e b) = [encL z e b] := by cases b <;> simp [encL]
@[simp] theorem clean_encL (b : Option (List α)) : clean (encL z e b) = true := by cases b <;> simp [encL]
@[simp] theorem lz_encL (b : Option (List α)) : lz (encL z e b) = true := by cases b <;> simp [encL]
@[simp] theorem elsZ_encL (h : List Ob) (b : Option (List α)) : elsZ h z (encL z e b) = some ((b.getD []).map e) := by cases b <;> simp [encL]
theorem ixL {P : Program} {t el : Nat} (hu : P.underlying t = some (.slice el)) (hs : szT P el = some z) (b : Option (List α)) (i : D) : indexAddrD P t (encL z e b) i = (idxD (b.getD []).length i).map fun i => .fptr z ((b.getD []).map e) i 0 := by
  cases b with
  | none => simp only [encL, indexAddrD, hu]; cases i <;> simp [idxD]
  | some l => simp [encL, ixsl_eq hu hs]
theorem map_get {l : List α} {i : Nat} {x : α} (h : l[i]? = some x) : (l.map e)[i]? = some (e x) := by simp [h]
end
@[reducible] def encInstr (x : Instr) : D := .agg [I x.op, I x.a, I x.b]
@[reducible] def encCode (c : Option (List Instr)) : D := encL 3 encInstr c
@[reducible] def encFunc (f : Fu) : D := .agg [I f.arity, I f.locals, I f.slots, encCode f.code]
@[reducible] def encProg (p : Option (List Fu)) : D := encL 4 encFunc p
@[simp] theorem ixL_instr (b : Option (List Instr)) (i : D) : indexAddrD Try.prog 39 (encL 3 encInstr b) i = (idxD (b.getD []).length i).map fun i => .fptr 3 ((b.getD []).map encInstr) i 0 := ixL un39 sz44 b i
@[simp] theorem ixL_func (b : Option (List Fu)) (i : D) : indexAddrD Try.prog 23 (encL 4 encFunc b) i = (idxD (b.getD []).length i).map fun i => .fptr 4 ((b.getD []).map encFunc) i 0 := ixL un23 sz41 b i
@[simp] theorem ixL_int (b : Option (List Int)) (i : D) : indexAddrD Try.prog 51 (encL 1 I b) i = (idxD (b.getD []).length i).map fun i => .fptr 1 ((b.getD []).map I) i 0 := ixL un51 sz3 b i
@[simp] theorem ixL_bool (b : Option (List Bool)) (i : D) : indexAddrD Try.prog 79 (encL 1 D.bool b) i = (idxD (b.getD []).length i).map fun i => .fptr 1 ((b.getD []).map D.bool) i 0 := ixL un79 sz4 b i
theorem cl_ints : ∀ l : List Int, cleans (l.map I) = true
  | [] => rfl
  | x :: l => by simp [cl_ints l]
theorem cl_bools : ∀ l : List Bool, cleans (l.map D.bool) = true
  | [] => rfl
  | x :: l => by simp [cl_bools l]
theorem wr {n : Int} (h1 : -2 ^ 63 ≤ n) (h2 : n < 2 ^ 63) : IntKind.i64.wrap n = n := IntWalk.i64_in _ (by omega)
theorem dt {p : Prop} [Decidable p] (h : p) : decide p = true := decide_eq_true h
theorem df {p : Prop} [Decidable p] (h : ¬ p) : decide p = false := decide_eq_false h
end Go.Proofs.YtlpadffinfijgaaW.Rg
set_option linter.unusedVariables false
set_option linter.unusedSimpArgs false
namespace Go.Proofs.YtlpadffinfijgaaW.Rg
open Go.Proofs.YtlpadffinfijgaaW.Vm Go.Proofs.YtlpadffinfijgaaW.Md
open Go Go.Proofs
theorem fin17 {n : Int} (h0 : 0 ≤ n) (h1 : n < 17) : ∃ k : Fin 17, n = (k.val : Int) := ⟨⟨n.toNat, by omega⟩, by simp; omega⟩
theorem out17 {n : Int} (h : ¬ (0 ≤ n ∧ n < 17)) (k : Int) (h0 : 0 ≤ k) (h1 : k < 17) : decide (n = k) = false := decide_eq_false (by omega)
def mostR (n f : Int) : Int := if n = 0 then 250 else if n = 1 ∨ n = 2 then 15 else if n = 10 ∨ n = 11 then 199 else if n = 13 then (if f = 1 then 7 else 15) else if n = 14 then 7 else 255
theorem off_in : ∀ k : Fin 17, beqo (fnc Try.prog cfg (exec Try.prog cfg 60) 113 [I k.val]) (some (I (off6 k.val))) = true := by decide +kernel
theorem on_in : ∀ k : Fin 17, beqo (fnc Try.prog cfg (exec Try.prog cfg 60) 109 [I k.val]) (some (I (on6 k.val))) = true := by decide +kernel
theorem fields_in : ∀ k : Fin 17, beqo (fnc Try.prog cfg (exec Try.prog cfg 60) 74 [I k.val]) (some (I (fields k.val))) = true := by decide +kernel
theorem stack_in : ∀ k : Fin 17, beqo (fnc Try.prog cfg (exec Try.prog cfg 60) 84 [I k.val]) (some (.tup [I (off6 k.val), I (on6 k.val)])) = true := by decide +kernel
theorem spans_in : ∀ k : Fin 17, beqo (fnc Try.prog cfg (exec Try.prog cfg 60) 76 [I k.val]) (some (.tup [.agg [I (leastA k.val), I (mostA k.val)], .agg [I 0, I (mostB k.val)]])) = true := by decide +kernel
theorem off_out {n : Int} (h : ¬ (0 ≤ n ∧ n < 17)) : off6 n = 0 := by unfold off6; rw [if_neg (by omega), if_neg (by omega)]
theorem on_out {n : Int} (h : ¬ (0 ≤ n ∧ n < 17)) : on6 n = 0 := by unfold on6; rw [if_neg (by omega), if_neg (by omega)]
theorem fields_out {n : Int} (h : ¬ (0 ≤ n ∧ n < 17)) : fields n = 0 := by unfold fields; rw [if_neg (by omega), if_neg (by omega)]
theorem off_spec (n : Int) : fnc Try.prog cfg R 113 [I n] = some (I (off6 n)) := by
  by_cases h : 0 ≤ n ∧ n < 17
  · obtain ⟨k, rfl⟩ := fin17 h.1 h.2
    exact eval_k 60 (off_in k)
  · rw [off_out h, fnc_at rfl, body_eq Try.func113 rfl rfl]
    simp [argsσ, Vm.results, out17 h]
theorem on_spec (n : Int) : fnc Try.prog cfg R 109 [I n] = some (I (on6 n)) := by
  by_cases h : 0 ≤ n ∧ n < 17
  · obtain ⟨k, rfl⟩ := fin17 h.1 h.2
    exact eval_k 60 (on_in k)
  · rw [on_out h, fnc_at rfl, body_eq Try.func109 rfl rfl]
    simp [argsσ, Vm.results, out17 h]
theorem fields_spec (n : Int) : fnc Try.prog cfg R 74 [I n] = some (I (fields n)) := by
  by_cases h : 0 ≤ n ∧ n < 17
  · obtain ⟨k, rfl⟩ := fin17 h.1 h.2
    exact eval_k 60 (fields_in k)
  · rw [fields_out h, fnc_at rfl, body_eq Try.func74 rfl rfl]
    simp [argsσ, Vm.results, out17 h]
theorem most_in : ∀ k : Fin 17, ∀ f : Fin 2, beqo (fnc Try.prog cfg (exec Try.prog cfg 60) 96 [I k.val, I f.val]) (some (I (mostR k.val f.val))) = true := by decide +kernel
theorem most_spec (n : Int) (h : 0 ≤ n ∧ n < 17) : fnc Try.prog cfg R 96 [I n, I 0] = some (I (mostR n 0)) ∧ fnc Try.prog cfg R 96 [I n, I 1] = some (I (mostR n 1)) := by
  obtain ⟨k, rfl⟩ := fin17 h.1 h.2
  exact ⟨eval_k 60 (most_in k 0), eval_k 60 (most_in k 1)⟩
theorem spans_spec (n : Int) : fnc Try.prog cfg R 76 [I n] = some (.tup [.agg [I (leastA n), I (mostA n)], .agg [I 0, I (mostB n)]]) := by
  by_cases h : 0 ≤ n ∧ n < 17
  · obtain ⟨k, rfl⟩ := fin17 h.1 h.2
    exact eval_k 60 (spans_in k)
  · have h1 : leastA n = 0 := by unfold leastA; rw [if_neg (by omega)]
    have h2 : mostA n = 0 := by unfold mostA; (repeat' split) <;> omega
    have h3 : mostB n = 0 := by unfold mostB; (repeat' split) <;> omega
    rw [h1, h2, h3, fnc_at rfl, body_eq Try.func76 rfl rfl]
    simp [argsσ, Vm.results, out17 h]
theorem has_spec (a b n : Int) : fnc Try.prog cfg R 77 [.agg [I a, I b], I n] = some (.bool (decide (a ≤ n) && decide (n ≤ b))) := by
  rw [fnc_at rfl, body_eq Try.func77 rfl rfl]
  cases h : decide (a ≤ n) <;> simp [argsσ, Vm.results, h]
theorem opmay_spec (x : Instr) : fnc Try.prog cfg R 50 [encInstr x] = some (.bool (imay x)) := by
  rw [fnc_at rfl, body_eq Try.func50 rfl rfl]
  have hs := spans_spec x.op
  have h1 := has_spec (leastA x.op) (mostA x.op) x.a
  have h2 := has_spec 0 (mostB x.op) x.b
  unfold imay
  cases c1 : decide (0 ≤ x.op)
  · simp [argsσ, Vm.results, hs, c1]
  cases c2 : decide (x.op < 17)
  · simp [argsσ, Vm.results, hs, c1, c2]
  cases c3 : (decide (leastA x.op ≤ x.a) && decide (x.a ≤ mostA x.op))
  · rw [c3] at h1
    simp [argsσ, Vm.results, hs, h1, c1, c2]
    simp at c3
    intro h3 h4
    have := c3 h3
    omega
  · rw [c3] at h1
    simp [argsσ, Vm.results, hs, h1, h2, c1, c2]
    simp only [Bool.and_eq_true] at c3
    simp [c3.1, c3.2]
/-- what the document says of an instruction -/
def imay6 (x : Instr) : Bool :=
  !(decide (x.op < 0) || decide (16 < x.op) || decide (x.a < 0) || decide (x.b < 0) || (decide (fields x.op < 2) && !decide (x.b = 0)) || (decide (fields x.op < 1) && !decide (x.a = 0))) &&
  !(decide (x.op = 16) && decide (x.a < 16)) && ((decide (fields x.op < 1) || decide (x.a ≤ mostR x.op 0)) && (decide (fields x.op < 2) || decide (x.b ≤ mostR x.op 1)))
theorem stack_spec (n : Int) (h : 0 ≤ n ∧ n < 17) : fnc Try.prog cfg R 84 [I n] = some (.tup [I (off6 n), I (on6 n)]) := by
  obtain ⟨k, rfl⟩ := fin17 h.1 h.2
  exact eval_k 60 (stack_in k)
theorem imay6_eq (x : Instr) : imay6 x = imay x := by
  by_cases h : 0 ≤ x.op ∧ x.op < 17
  · have h5 : x.op = 0 ∨ x.op = 1 ∨ x.op = 2 ∨ x.op = 3 ∨ x.op = 4 ∨ x.op = 5 ∨ x.op = 6 ∨ x.op = 7 ∨ x.op = 8 ∨ x.op = 9 ∨ x.op = 10 ∨ x.op = 11 ∨ x.op = 12 ∨ x.op = 13 ∨ x.op = 14 ∨ x.op = 15 ∨ x.op = 16 := by omega
    rw [Bool.eq_iff_iff]
    unfold imay6 imay
    simp only [Bool.and_eq_true, Bool.or_eq_true, Bool.not_eq_true', Bool.or_eq_false_iff, Bool.and_eq_false_iff, decide_eq_true_eq, decide_eq_false_iff_not, Bool.not_eq_false']
    rcases h5 with e | e | e | e | e | e | e | e | e | e | e | e | e | e | e | e | e <;> simp only [e, fields, leastA, mostA, mostB, mostR] <;> simp <;> omega
  · have e1 : imay x = false := by cases hh : imay x with
      | false => rfl
      | true => have := imay_iff.1 hh; omega
    rw [e1]
    unfold imay6
    by_cases h0 : x.op < 0
    · simp [h0]
    · have : 16 < x.op := by omega
      simp [this]
set_option maxHeartbeats 4000000 in
theorem rmay6_spec (x : Instr) : fnc Try.prog cfg R 68 [encInstr x] = some (.bool (imay x)) := by
  rw [← imay6_eq, fnc_at rfl, body_eq Try.func68 rfl rfl]
  have hF := fields_spec x.op
  have hd := dr68_6
  simp [opsAt, opsIn, Try.f68] at hd
  have hdw := Wdraw0 hd
  clear hd
  unfold imay6
  cases c1 : decide (x.op < 0)
  case true => simp [argsσ, Vm.results, hF, c1]
  cases c2 : decide (16 < x.op)
  case true => simp [argsσ, Vm.results, hF, c1, c2]
  have hr : 0 ≤ x.op ∧ x.op < 17 := by have := of_decide_eq_false c1; have := of_decide_eq_false c2; omega
  obtain ⟨m0, m1⟩ := most_spec x.op hr
  generalize mostR x.op 0 = M0 at m0
  generalize mostR x.op 1 = M1 at m1
  generalize fields x.op = F at hF
  cases c3 : decide (x.a < 0)
  case true => simp [argsσ, Vm.results, hF, c1, c2, c3]
  cases c4 : decide (x.b < 0)
  case true => simp [argsσ, Vm.results, hF, c1, c2, c3, c4]
  cases c5 : decide (F < 2) <;> cases c6 : decide (x.b = 0)
  case true.false => simp [argsσ, Vm.results, hF, c1, c2, c3, c4, c5, c6]
  all_goals cases c7 : decide (F < 1) <;> cases c8 : decide (x.a = 0)
  any_goals (case true.false => simp [argsσ, Vm.results, hF, c1, c2, c3, c4, c5, c6, c7, c8])
  all_goals cases c9 : decide (x.op = 16) <;> cases c10 : decide (x.a < 16)
  any_goals (case true.true => simp [argsσ, Vm.results, hF, c1, c2, c3, c4, c5, c6, c7, c8, c9, c10])
  all_goals cases c11 : decide (x.a ≤ M0) <;> simp [argsσ, Vm.results, hF, hdw, m0, m1, c1, c2, c3, c4, c5, c6, c7, c8, c9, c10, c11]
end Go.Proofs.YtlpadffinfijgaaW.Rg
set_option linter.unusedVariables false
set_option linter.unusedSimpArgs false
namespace Go.Proofs.YtlpadffinfijgaaW.Rg
open Go.Proofs.YtlpadffinfijgaaW.Vm Go.Proofs.YtlpadffinfijgaaW.Md
open Go Go.Proofs
/-- the first place of a list of which something is true -/
def idxF {α : Type} (p : α → Bool) : List α → Nat → Option Nat
  | [], _ => none
  | x :: xs, i => if p x then some i else idxF p xs (i + 1)
def idxI {α : Type} (p : α → Bool) (l : List α) : Int := match idxF p l 0 with | some j => j | none => -1
theorem idxF_any {α : Type} (p : α → Bool) : ∀ (l : List α) (i : Nat), (idxF p l i).isSome = l.any p
  | [], i => rfl
  | x :: xs, i => by
    unfold idxF
    cases h : p x
    · simp [idxF_any p xs (i + 1), h]
    · simp [h]
theorem idxI_any {α : Type} (p : α → Bool) (l : List α) : decide (0 ≤ idxI p l) = l.any p := by
  rw [← idxF_any p l 0]
  unfold idxI
  cases idxF p l 0 with
  | none => rfl
  | some j => simp
theorem drop_get {α : Type} {l rest : List α} {i : Nat} {y : α} (h : l.drop i = y :: rest) : l[i]? = some y ∧ l.drop (i + 1) = rest ∧ i < l.length := by
  have h1 : (l.drop i)[0]? = some y := by rw [h]; rfl
  rw [List.getElem?_drop] at h1
  refine ⟨by simpa using h1, ?_, ?_⟩
  · rw [← List.drop_drop, h]; rfl
  · have := congrArg List.length h; simp at this; omega
theorem idx_loop_instr (c : Option (List Instr)) (p : Instr → Bool) (g : Nat) (ca : List D) (hca : cleans ca = true) (hlz : lzs ca = true) (hsh : cfg.shared g = false) (hg : ∀ x, fnc Try.prog cfg R g (encInstr x :: ca) = some (.bool (p x))) (hl : (c.getD []).length < 2 ^ 63) {X : Type} (K : Ex × St → Option X) (x : X) : ∀ (rest : List Instr) (i : Nat) (σ : Nat → D), (c.getD []).drop i = rest →
    σ 0 = encL 3 encInstr c → σ 1 = .clo (.func g) [] ca → σ 7 = I (c.getD []).length → σ 8 = I i →
    (∀ σ' (j : Nat), idxF p rest i = some j → σ' 4 = I j → K (.ret, ⟨σ', [], 19⟩) = some x) → (∀ σ', idxF p rest i = none → K (.exit 0, ⟨σ', [], 19⟩) = some x) →
    (W Try.prog cfg (.loop (loopAt Try.f75 2)) ⟨σ, [], 19⟩).bind K = some x
  | [], i, σ, hd, s0, s1, s7, s8, hr, he => by
    have hi : ¬ (i < (c.getD []).length) := by have := congrArg List.length hd; simp at this; omega
    rw [Wloop]
    conv => lhs; arg 1; arg 1; simp [loopAt, loopIn, headId, Try.f75, s7, s8, hi]
    exact he _ rfl
  | y :: rest, i, σ, hd, s0, s1, s7, s8, hr, he => by
    obtain ⟨hg1, hd1, hi⟩ := drop_get hd
    have hlt : decide (i < (c.getD []).length) = true := dt hi
    have hx := idxD_nat .i64 hi
    have hw : IntKind.i64.wrap ((i : Int) + 1) = ((i + 1 : Nat) : Int) := wr (by omega) (by omega)
    have hgy := hg y
    have hcc : clean (.clo (.func g) [] ca) = true := by simp [hca]
    cases hp : p y with
    | true =>
      rw [hp] at hgy
      rw [Wloop]
      conv => lhs; arg 1; arg 1; simp [loopAt, loopIn, headId, Try.f75, s0, s1, s7, s8, hlt, hx, hg1, hgy, hw, hsh, hca, hlz, exps_clean hca hlz, markss_clean hca]
      exact hr _ i (by simp [idxF, hp]) (by simp)
    | false =>
      rw [hp] at hgy
      rw [Wloop]
      conv => lhs; arg 1; arg 1; simp [loopAt, loopIn, headId, Try.f75, s0, s1, s7, s8, hlt, hx, hg1, hgy, hw, hsh, hca, hlz, exps_clean hca hlz, markss_clean hca]
      rw [Option.bind_some, loopK_normal]
      refine idx_loop_instr c p g ca hca hlz hsh hg hl K x rest (i + 1) _ hd1 (by simp [s0]) (by simp [s1]) (by simp [s7]) (by simp) ?_ ?_
      · intro σ' j h1 h2; exact hr σ' j (by simp [idxF, hp, h1]) h2
      · intro σ' h1; exact he σ' (by simp [idxF, hp, h1])
theorem index_instr (c : Option (List Instr)) (p : Instr → Bool) (g : Nat) (ca : List D) (hca : cleans ca = true) (hlz : lzs ca = true) (hsh : cfg.shared g = false) (hg : ∀ x, fnc Try.prog cfg R g (encInstr x :: ca) = some (.bool (p x))) (hl : (c.getD []).length < 2 ^ 63) :
    fnc Try.prog cfg R 75 [encL 3 encInstr c, .clo (.func g) [] ca] = some (I (idxI p (c.getD []))) := by
  rw [fnc_at rfl, body_eq Try.func75 rfl rfl]
  simp [argsσ, Option.bind_assoc]
  refine idx_loop_instr c p g ca hca hlz hsh hg hl _ _ (c.getD []) 0 _ (by simp) (by simp [argsσ]) (by simp [argsσ]) (by simp) (by simp) ?_ ?_
  · intro σ' j h1 h2; simp [h2, Vm.results, idxI, h1]
  · intro σ' h1; simp [Vm.results, idxI, h1]
theorem contains_instr (c : Option (List Instr)) (p : Instr → Bool) (g : Nat) (ca : List D) (hca : cleans ca = true) (hlz : lzs ca = true) (hsh : cfg.shared g = false) (hg : ∀ x, fnc Try.prog cfg R g (encInstr x :: ca) = some (.bool (p x))) (hl : (c.getD []).length < 2 ^ 63) :
    fnc Try.prog cfg R 48 [encL 3 encInstr c, .clo (.func g) [] ca] = some (.bool ((c.getD []).any p)) := by
  have h := index_instr c p g ca hca hlz hsh hg hl
  have he := idxI_any p (c.getD [])
  rw [fnc_at rfl, body_eq Try.func48 rfl rfl]
  have hcc : clean (.clo (.func g) [] ca) = true := by simp [hca]
  simp [argsσ, Vm.results, h, hca, hlz, exps_clean hca hlz, markss_clean hca, he]
def inC (n a b : Int) : Bool := decide (a ≤ n) && decide (n ≤ b)
theorem in_spec (n a b : Int) : fnc Try.prog cfg R 47 [I n, I a, I b] = some (.bool (inC n a b)) := by
  rw [fnc_at rfl, body_eq Try.func47 rfl rfl]
  cases h1 : decide (a ≤ n) <;> simp [argsσ, Vm.results, h1, inC]
theorem head_spec (f : Fu) : fnc Try.prog cfg R 46 [encFunc f] = some (.bool (headOk f)) := by
  have e : headOk f = (inC f.arity 0 16 && inC f.locals 0 16 && inC f.slots 0 8) := by unfold headOk inC; simp [Bool.and_assoc]
  rw [e, fnc_at rfl, body_eq Try.func46 rfl rfl]
  cases h1 : inC f.arity 0 16 <;> cases h2 : inC f.locals 0 16 <;> simp [argsσ, Vm.results, in_spec, h1, h2]
theorem may1_spec (x : Instr) : fnc Try.prog cfg R 49 [encInstr x] = some (.bool (!imay x)) := by
  rw [fnc_at rfl, body_eq Try.func49 rfl rfl]
  simp [argsσ, Vm.results, opmay_spec]
theorem any_not (c : List Instr) : c.any (fun x => !imay x) = !c.all imay := by
  induction c with
  | nil => rfl
  | cons x c ih => simp [ih]
theorem may_loop (p : Option (List Fu)) (hl : (p.getD []).length < 2 ^ 63) {X : Type} (K : Ex × St → Option X) (x : X) : ∀ (rest : List Fu) (i : Nat) (H : List Ob) (σ : Nat → D), (p.getD []).drop i = rest →
    σ 0 = encProg p → σ 5 = encProg p → σ 6 = I (p.getD []).length → σ 7 = I i →
    (∀ σ' H', rest.all fmay = false → σ' 2 = .bool false → K (.ret, ⟨σ', H', 30⟩) = some x) → (∀ σ' H', rest.all fmay = true → σ' 0 = encProg p → K (.exit 0, ⟨σ', H', 30⟩) = some x) →
    (W Try.prog cfg (.loop (loopAt Try.f30 2)) ⟨σ, H, 30⟩).bind K = some x
  | [], i, H, σ, hd, s0, s5, s6, s7, hr, he => by
    have hi : ¬ (i < (p.getD []).length) := by have := congrArg List.length hd; simp at this; omega
    rw [Wloop]
    conv => lhs; arg 1; arg 1; simp [loopAt, loopIn, headId, Try.f30, s6, s7, hi]
    exact he _ _ rfl (by simp [s0])
  | f :: rest, i, H, σ, hd, s0, s5, s6, s7, hr, he => by
    obtain ⟨hg1, hd1, hi⟩ := drop_get hd
    have hlt : decide (i < (p.getD []).length) = true := dt hi
    have hx := idxD_nat .i64 hi
    have hw : IntKind.i64.wrap ((i : Int) + 1) = ((i + 1 : Nat) : Int) := wr (by omega) (by omega)
    have hh := head_spec f
    cases h1 : headOk f with
    | false =>
      rw [h1] at hh
      have hf : fmay f = false := by unfold fmay; rw [h1]; rfl
      rw [Wloop]
      conv => lhs; arg 1; arg 1; simp [loopAt, loopIn, headId, Try.f30, s5, s6, s7, hlt, hx, hg1, hh]
      exact hr _ _ (by simp [hf]) (by simp)
    | true =>
      rw [h1] at hh
      cases h2 : inC f.c.length 1 200 with
      | false =>
        have hc : ((f.code.getD []).length : Int) = f.c.length := rfl
        have hf : fmay f = false := by
          cases hb : fmay f with
          | false => rfl
          | true => have := fmay_len hb; unfold inC at h2; simp at h2; omega
        rw [Wloop]
        conv => lhs; arg 1; arg 1; simp [loopAt, loopIn, headId, Try.f30, s5, s6, s7, hlt, hx, hg1, hh, in_spec, hc, h2]
        exact hr _ _ (by simp [hf]) (by simp)
      | true =>
        have hc : ((f.code.getD []).length : Int) = f.c.length := rfl
        have hb : f.c.length < 2 ^ 63 := by unfold inC at h2; simp at h2; omega
        have hC := contains_instr f.code (fun x => !imay x) 49 [] (by simp) (by simp) rfl may1_spec hb
        rw [any_not, show f.code.getD [] = f.c from rfl] at hC
        have hf : fmay f = f.c.all imay := by unfold fmay; rw [h1]; unfold inC at h2; simp at h2; simp; omega
        cases h3 : f.c.all imay with
        | false =>
          rw [h3] at hC
          rw [Wloop]
          conv => lhs; arg 1; arg 1; simp [loopAt, loopIn, headId, Try.f30, s5, s6, s7, hlt, hx, hg1, hh, in_spec, hc, h2, hC]
          exact hr _ _ (by simp [hf, h3]) (by simp)
        | true =>
          rw [h3] at hC
          rw [Wloop]
          conv => lhs; arg 1; arg 1; simp [loopAt, loopIn, headId, Try.f30, s5, s6, s7, hlt, hx, hg1, hh, in_spec, hc, h2, hC, hw]
          rw [Option.bind_some, loopK_normal]
          refine may_loop p hl K x rest (i + 1) _ _ hd1 (by simp [s0]) (by simp [s5]) (by simp [s6]) (by simp) ?_ ?_
          · intro σ' H' ha h2; exact hr σ' H' (by simp [ha]) h2
          · intro σ' H' ha h2; exact he σ' H' (by simp [ha, hf, h3]) h2
theorem may_spec (p : Option (List Fu)) (hl : (p.getD []).length < 2 ^ 63) : fnc Try.prog cfg R 30 [encProg p] = some (.bool (mayP (p.getD []))) := by
  rw [fnc_at rfl, body_eq Try.func30 rfl rfl]
  simp [argsσ, Option.bind_assoc]
  refine may_loop p hl _ _ (p.getD []) 0 _ _ (by simp) (by simp [argsσ]) (by simp [argsσ]) (by simp) (by simp) ?_ ?_
  · intro σ' H' ha h2; simp [h2, Vm.results, mayP, ha]
  · intro σ' H' ha h2
    simp [h2, Vm.results, in_spec, mayP, ha, inC]
    congr 1 <;> simp <;> omega
end Go.Proofs.YtlpadffinfijgaaW.Rg
