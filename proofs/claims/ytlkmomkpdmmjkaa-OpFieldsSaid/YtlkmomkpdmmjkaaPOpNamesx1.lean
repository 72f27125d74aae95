-- Written by a program of this session (a changed copy of the kit's print).
import Derived.Test.YtlkmomkpdmmjkaaPOpNamesx0
namespace Go.Proofs.Ytlkmomkpdmmjkaa.POpNames
open Go.RowKit Go.Proofs.YtlkmomkpdmmjkaaW.PrintWords Go.Proofs.YtlkmomkpdmmjkaaW.PrintLast Go.Proofs.YtlkmomkpdmmjkaaW.PrintMore
attribute [local go_sem] max2_int min2_int max_two min_two max_three min_three max_four min_four   -- for this text's walks alone
set_option linter.unusedVariables false
set_option linter.unusedSimpArgs false

/-! ### op_kinds: function 40 -/
def KC : Array Value := #[.string ⟨#[112, 117, 115, 104]⟩, .int .i64 2, .int .i64 0, .int .i64 1, .string ⟨#[108, 111, 97, 100]⟩, .int .i64 1, .int .i64 0, .int .i64 1, .string ⟨#[115, 116, 111, 114, 101]⟩, .int .i64 1, .int .i64 1, .int .i64 0, .string ⟨#[97, 100, 100]⟩, .int .i64 0, .int .i64 2, .int .i64 1, .string ⟨#[115, 117, 98]⟩, .int .i64 0, .int .i64 2, .int .i64 1, .string ⟨#[109, 117, 108]⟩, .int .i64 0, .int .i64 2, .int .i64 1, .string ⟨#[100, 105, 118]⟩, .int .i64 0, .int .i64 2, .int .i64 1, .string ⟨#[99, 111, 110, 106]⟩, .int .i64 0, .int .i64 1, .int .i64 1, .string ⟨#[100, 117, 112]⟩, .int .i64 0, .int .i64 1, .int .i64 2, .string ⟨#[100, 114, 111, 112]⟩, .int .i64 0, .int .i64 1, .int .i64 0, .string ⟨#[106, 117, 109, 112]⟩, .int .i64 1, .int .i64 0, .int .i64 0, .string ⟨#[122, 101, 114, 111]⟩, .int .i64 1, .int .i64 1, .int .i64 0, .string ⟨#[114, 97, 110, 100]⟩, .int .i64 0, .int .i64 0, .int .i64 1, .string ⟨#[115, 112, 97, 119, 110]⟩, .int .i64 2, .int .i64 0, .int .i64 0, .string ⟨#[106, 111, 105, 110]⟩, .int .i64 1, .int .i64 0, .int .i64 1, .string ⟨#[114, 101, 116]⟩, .int .i64 0, .int .i64 1, .int .i64 0, .string ⟨#[116, 114, 97, 112]⟩, .int .i64 1, .int .i64 0, .int .i64 0]
def KZ : Array Value := #[.string ⟨#[]⟩, .int .i64 0, .int .i64 0, .int .i64 0, .string ⟨#[]⟩, .int .i64 0, .int .i64 0, .int .i64 0, .string ⟨#[]⟩, .int .i64 0, .int .i64 0, .int .i64 0, .string ⟨#[]⟩, .int .i64 0, .int .i64 0, .int .i64 0, .string ⟨#[]⟩, .int .i64 0, .int .i64 0, .int .i64 0, .string ⟨#[]⟩, .int .i64 0, .int .i64 0, .int .i64 0, .string ⟨#[]⟩, .int .i64 0, .int .i64 0, .int .i64 0, .string ⟨#[]⟩, .int .i64 0, .int .i64 0, .int .i64 0, .string ⟨#[]⟩, .int .i64 0, .int .i64 0, .int .i64 0, .string ⟨#[]⟩, .int .i64 0, .int .i64 0, .int .i64 0, .string ⟨#[]⟩, .int .i64 0, .int .i64 0, .int .i64 0, .string ⟨#[]⟩, .int .i64 0, .int .i64 0, .int .i64 0, .string ⟨#[]⟩, .int .i64 0, .int .i64 0, .int .i64 0, .string ⟨#[]⟩, .int .i64 0, .int .i64 0, .int .i64 0, .string ⟨#[]⟩, .int .i64 0, .int .i64 0, .int .i64 0, .string ⟨#[]⟩, .int .i64 0, .int .i64 0, .int .i64 0, .string ⟨#[]⟩, .int .i64 0, .int .i64 0, .int .i64 0]
theorem zeroKinds : ∃ Z : Array Value, (∀ w, (zeroValue 48).run Try.prog w = .ok (.agg Z) w) ∧ Z.size = 68 := ⟨KZ, fun w => by kernel_rfl, by kernel_rfl⟩
set_option maxHeartbeats 400000 in
set_option maxRecDepth 100000 in
theorem op_kinds.calls (w : World) :
    Calls Try.prog 40 #[] w fun e w' => e = .returned (.agg KC) ∧ Below w.heap.size w w' := by
  obtain ⟨Z, hz, hs⟩ := zeroKinds
  have HS := Aside0.mk hs
  clear hs
  go_enter Try.func40, Try.ntmps40
  go_wp2_with (first | ((with_reducible refine wpList_built rfl 48 _ rfl KC (by kernel_rfl) ?_)) | ((with_reducible refine gate_store (t := 48) rfl ?_); refine store_new (W := w) 48 _ _ Z KC rfl rfl (by rfl) (by rfl) (by kernel_rfl) (HS.out.trans (by kernel_rfl)) (by kernel_rfl) ?_))
  refine bodyPost_ret (results_cell_row rfl _ _ w.heap.size 48 KC (0, 0) _ rfl (heap_alloc_new _ _) Try.underlying48 rfl (by kernel_rfl)) rfl ?_
  exact ⟨rfl, (Below.refl _ _).alloc (Nat.le_refl _) _⟩

-- NOT PRINTED: function 41 (op_kind)

/-! ### op_Find: function 24 -/
def opName : Nat → ByteArray
  | 0 => ⟨#[112, 117, 115, 104]⟩
  | 1 => ⟨#[108, 111, 97, 100]⟩
  | 2 => ⟨#[115, 116, 111, 114, 101]⟩
  | 3 => ⟨#[97, 100, 100]⟩
  | 4 => ⟨#[115, 117, 98]⟩
  | 5 => ⟨#[109, 117, 108]⟩
  | 6 => ⟨#[100, 105, 118]⟩
  | 7 => ⟨#[99, 111, 110, 106]⟩
  | 8 => ⟨#[100, 117, 112]⟩
  | 9 => ⟨#[100, 114, 111, 112]⟩
  | 10 => ⟨#[106, 117, 109, 112]⟩
  | 11 => ⟨#[122, 101, 114, 111]⟩
  | 12 => ⟨#[114, 97, 110, 100]⟩
  | 13 => ⟨#[115, 112, 97, 119, 110]⟩
  | 14 => ⟨#[106, 111, 105, 110]⟩
  | 15 => ⟨#[114, 101, 116]⟩
  | 16 => ⟨#[116, 114, 97, 112]⟩
  | _ => ⟨#[]⟩
def opFields : Nat → Int
  | 0 => 2
  | 1 => 1
  | 2 => 1
  | 3 => 0
  | 4 => 0
  | 5 => 0
  | 6 => 0
  | 7 => 0
  | 8 => 0
  | 9 => 0
  | 10 => 1
  | 11 => 1
  | 12 => 0
  | 13 => 2
  | 14 => 1
  | 15 => 0
  | 16 => 1
  | _ => 0
def opOff : Nat → Int
  | 0 => 0
  | 1 => 0
  | 2 => 1
  | 3 => 2
  | 4 => 2
  | 5 => 2
  | 6 => 2
  | 7 => 1
  | 8 => 1
  | 9 => 1
  | 10 => 0
  | 11 => 1
  | 12 => 0
  | 13 => 0
  | 14 => 0
  | 15 => 1
  | 16 => 0
  | _ => 0
def opOn : Nat → Int
  | 0 => 1
  | 1 => 1
  | 2 => 0
  | 3 => 1
  | 4 => 1
  | 5 => 1
  | 6 => 1
  | 7 => 1
  | 8 => 2
  | 9 => 0
  | 10 => 0
  | 11 => 0
  | 12 => 1
  | 13 => 0
  | 14 => 1
  | 15 => 0
  | 16 => 0
  | _ => 0

/-- an operation's number, or one that is none -/
def opNum (n : Int) : Nat := if 0 ≤ n ∧ n < 17 then n.toNat else 17
def opRow (n : Nat) : Array Value := #[.string (opName n), .int .i64 (opFields n), .int .i64 (opOff n), .int .i64 (opOn n)]
theorem op_index_0 (w : World) : (Instr.index 48 (.agg KC) (.int .i64 0)).run Try.prog w = .ok (.agg (opRow 0)) w := by kernel_rfl
theorem op_index_1 (w : World) : (Instr.index 48 (.agg KC) (.int .i64 1)).run Try.prog w = .ok (.agg (opRow 1)) w := by kernel_rfl
theorem op_index_2 (w : World) : (Instr.index 48 (.agg KC) (.int .i64 2)).run Try.prog w = .ok (.agg (opRow 2)) w := by kernel_rfl
theorem op_index_3 (w : World) : (Instr.index 48 (.agg KC) (.int .i64 3)).run Try.prog w = .ok (.agg (opRow 3)) w := by kernel_rfl
theorem op_index_4 (w : World) : (Instr.index 48 (.agg KC) (.int .i64 4)).run Try.prog w = .ok (.agg (opRow 4)) w := by kernel_rfl
theorem op_index_5 (w : World) : (Instr.index 48 (.agg KC) (.int .i64 5)).run Try.prog w = .ok (.agg (opRow 5)) w := by kernel_rfl
theorem op_index_6 (w : World) : (Instr.index 48 (.agg KC) (.int .i64 6)).run Try.prog w = .ok (.agg (opRow 6)) w := by kernel_rfl
theorem op_index_7 (w : World) : (Instr.index 48 (.agg KC) (.int .i64 7)).run Try.prog w = .ok (.agg (opRow 7)) w := by kernel_rfl
theorem op_index_8 (w : World) : (Instr.index 48 (.agg KC) (.int .i64 8)).run Try.prog w = .ok (.agg (opRow 8)) w := by kernel_rfl
theorem op_index_9 (w : World) : (Instr.index 48 (.agg KC) (.int .i64 9)).run Try.prog w = .ok (.agg (opRow 9)) w := by kernel_rfl
theorem op_index_10 (w : World) : (Instr.index 48 (.agg KC) (.int .i64 10)).run Try.prog w = .ok (.agg (opRow 10)) w := by kernel_rfl
theorem op_index_11 (w : World) : (Instr.index 48 (.agg KC) (.int .i64 11)).run Try.prog w = .ok (.agg (opRow 11)) w := by kernel_rfl
theorem op_index_12 (w : World) : (Instr.index 48 (.agg KC) (.int .i64 12)).run Try.prog w = .ok (.agg (opRow 12)) w := by kernel_rfl
theorem op_index_13 (w : World) : (Instr.index 48 (.agg KC) (.int .i64 13)).run Try.prog w = .ok (.agg (opRow 13)) w := by kernel_rfl
theorem op_index_14 (w : World) : (Instr.index 48 (.agg KC) (.int .i64 14)).run Try.prog w = .ok (.agg (opRow 14)) w := by kernel_rfl
theorem op_index_15 (w : World) : (Instr.index 48 (.agg KC) (.int .i64 15)).run Try.prog w = .ok (.agg (opRow 15)) w := by kernel_rfl
theorem op_index_16 (w : World) : (Instr.index 48 (.agg KC) (.int .i64 16)).run Try.prog w = .ok (.agg (opRow 16)) w := by kernel_rfl
theorem op_index (n : Nat) (h : n < 17) (w : World) : (Instr.index 48 (.agg KC) (.int .i64 (n : Int))).run Try.prog w = .ok (.agg (opRow n)) w := by
  have : n = 0 ∨ n = 1 ∨ n = 2 ∨ n = 3 ∨ n = 4 ∨ n = 5 ∨ n = 6 ∨ n = 7 ∨ n = 8 ∨ n = 9 ∨ n = 10 ∨ n = 11 ∨ n = 12 ∨ n = 13 ∨ n = 14 ∨ n = 15 ∨ n = 16 := by omega
  rcases this with rfl | rfl | rfl | rfl | rfl | rfl | rfl | rfl | rfl | rfl | rfl | rfl | rfl | rfl | rfl | rfl | rfl
  · exact op_index_0 w
  · exact op_index_1 w
  · exact op_index_2 w
  · exact op_index_3 w
  · exact op_index_4 w
  · exact op_index_5 w
  · exact op_index_6 w
  · exact op_index_7 w
  · exact op_index_8 w
  · exact op_index_9 w
  · exact op_index_10 w
  · exact op_index_11 w
  · exact op_index_12 w
  · exact op_index_13 w
  · exact op_index_14 w
  · exact op_index_15 w
  · exact op_index_16 w
theorem op_row_one (n : Nat) : (opRow n).all (·.oneCell') = true := by kernel_rfl
set_option maxHeartbeats 400000 in
set_option maxRecDepth 100000 in
theorem op_of.no (n : Int) (w : World) (h : ¬ (0 ≤ n ∧ n < 17)) :
    Calls Try.prog 44 #[.int .i64 n] w fun e w' => e = .returned (.agg (opRow 17)) ∧ Below w.heap.size w w' := by
  have hu := Try.underlying47
  by_cases h1 : n < 0
  · have h1b : decide (n < 0) = true := decide_eq_true h1
    clear h h1
    go_enter Try.func44, Try.ntmps44
    go_wp2
    refine bodyPost_ret (results_cell_row rfl _ _ w.heap.size 47 (opRow 17) (0, 0) _ rfl (heap_alloc_new _ _) Try.underlying47 rfl (by kernel_rfl)) rfl ?_
    exact ⟨rfl, (Below.refl _ _).alloc (Nat.le_refl _) _⟩
  · have h2 : 17 ≤ n := by omega
    have h1b : decide (n < 0) = false := decide_eq_false h1
    have h2b : decide (17 ≤ n) = true := decide_eq_true h2
    clear h
    go_enter Try.func44, Try.ntmps44
    go_wp2
    refine bodyPost_ret (results_cell_row rfl _ _ w.heap.size 47 (opRow 17) (0, 0) _ rfl (heap_alloc_new _ _) Try.underlying47 rfl (by kernel_rfl)) rfl ?_
    exact ⟨rfl, (Below.refl _ _).alloc (Nat.le_refl _) _⟩
set_option maxHeartbeats 400000 in
set_option maxRecDepth 100000 in
theorem op_of.yes (n : Nat) (w : World) (h : n < 17) :
    Calls Try.prog 44 #[.int .i64 (n : Int)] w fun e w' => e = .returned (.agg (opRow n)) ∧ Below w.heap.size w w' := by
  have hu := Try.underlying47
  have h1b : decide ((n : Int) < 0) = false := decide_eq_false (by omega)
  have h2b : decide ((17 : Int) ≤ (n : Int)) = false := decide_eq_false (by omega)
  have hix := op_index n h
  generalize hr : opRow n = R at hix
  have HR := Aside0.mk hr
  clear hr
  go_enter Try.func44, Try.ntmps44
  go_wp2_with (first | (go_at_call 40; (with_reducible refine (op_kinds.calls _).mono ?_); rintro e w1 ⟨rfl, hb⟩) | ((with_reducible refine gate_store (t := 47) rfl ?_); go_must (refine wpList_store_row rfl 47 _ _ rfl w.heap.size R (by rfl) (by rfl) 47 _ ((hb.block _ (by simp)).trans (heap_alloc_new _ _)) (by rw [← HR.out]; kernel_rfl) (by rw [← HR.out]; rfl) (by rw [← HR.out]; exact op_row_one n) ?_)))
  have hblk := (hb.block w.heap.size (by simp)).trans (heap_alloc_new w _)
  refine bodyPost_ret (results_cell_row rfl _ _ w.heap.size 47 R (0, 0) _ rfl (setRow_heap _ _ _ _ _ _ hblk) Try.underlying47 rfl (by rw [← HR.out]; kernel_rfl)) rfl ?_
  exact ⟨rfl, below_setRow (((Below.refl _ _).alloc (Nat.le_refl _) _).trans (hb.mono (by simp))) (Nat.le_refl _) R⟩
theorem opNum_lt (n : Int) (h : 0 ≤ n ∧ n < 17) : ∃ m : Nat, n = m ∧ m < 17 ∧ opNum n = m := ⟨n.toNat, by omega, by omega, by unfold opNum; rw [if_pos h]⟩
theorem op_of.calls (n : Int) (w : World) :
    Calls Try.prog 44 #[.int .i64 n] w fun e w' => e = .returned (.agg #[.string (opName (opNum n)), .int .i64 (opFields (opNum n)), .int .i64 (opOff (opNum n)), .int .i64 (opOn (opNum n))]) ∧ Below w.heap.size w w' := by
  by_cases h : 0 ≤ n ∧ n < 17
  · obtain ⟨m, rfl, hm, he⟩ := opNum_lt n h
    rw [he]
    exact op_of.yes m w hm
  · have he : opNum n = 17 := by unfold opNum; rw [if_neg h]
    rw [he]
    exact op_of.no n w h

/-- 'k.name == name', over the captured variable -/
def opHas (s : ByteArray) (n : Nat) : Bool := (opName n).toList == s.toList
set_option maxHeartbeats 400000 in
set_option maxRecDepth 100000 in
theorem op_Find_1.calls (n : Nat) (s : ByteArray) (g : Nat) (w : World) (hc : w.cell? ⟨g, 0, none⟩ = some (.string s)) (hg : g < w.heap.size) :
    Calls Try.prog 42 #[.agg (opRow n), .pointer (some ⟨g, 0, none⟩)] w fun e w' => e = .returned (.bool (opHas s n)) ∧ Below w.heap.size w w' := by
  have hu := Try.underlying47
  unfold opRow opHas
  generalize opName n = a
  go_enter Try.func42, Try.ntmps42
  go_wp2
  go_ret
  exact ⟨rfl, (Below.refl _ _).alloc (Nat.le_refl _) _⟩

/-- the first operation of that name; -1: none -/
def opFirst (s : ByteArray) : Nat → Int
  | 0 => -1
  | n + 1 => if opHas s (16 - n) then ((16 - n : Nat) : Int) else opFirst s n
theorem opFirst_hit (s : ByteArray) (kk : Nat) (h : kk < 17) (hp : opHas s kk = true) : opFirst s (17 - kk) = kk := by
  rw [show 17 - kk = (16 - kk) + 1 by omega, opFirst, show 16 - (16 - kk) = kk by omega, if_pos hp]
theorem opFirst_miss (s : ByteArray) (kk : Nat) (h : kk < 17) (hp : opHas s kk = false) : opFirst s (17 - kk) = opFirst s (17 - (kk + 1)) := by
  rw [show 17 - kk = (16 - kk) + 1 by omega, opFirst, show 16 - (16 - kk) = kk by omega, hp, if_neg (by decide), show 17 - (kk + 1) = 16 - kk by omega]
theorem kc_cells (j : Nat) (hj : j < 17) (i : Nat) (v : Value) (h : (opRow j).toList[i]? = some v) : KC[j * 4 + i]? = some v := by
  have e : (opRow j).toList = (KC.toList.drop (j * 4)).take 4 := by
    have : j = 0 ∨ j = 1 ∨ j = 2 ∨ j = 3 ∨ j = 4 ∨ j = 5 ∨ j = 6 ∨ j = 7 ∨ j = 8 ∨ j = 9 ∨ j = 10 ∨ j = 11 ∨ j = 12 ∨ j = 13 ∨ j = 14 ∨ j = 15 ∨ j = 16 := by omega
    rcases this with rfl | rfl | rfl | rfl | rfl | rfl | rfl | rfl | rfl | rfl | rfl | rfl | rfl | rfl | rfl | rfl | rfl <;> rfl
  rw [e, List.getElem?_take] at h
  split at h
  · rw [List.getElem?_drop] at h
    simpa using h
  · cases h
set_option maxHeartbeats 2000000 in
set_option maxRecDepth 100000 in
theorem op_IndexFunc.calls (s : ByteArray) (b g : Nat) (w : World) (hb : b < w.heap.size) (hg : g < w.heap.size) (hcn : w.cell? ⟨g, 0, none⟩ = some (.string s)) (hc : ∀ j, j < 68 → w.cell? ⟨b, j, none⟩ = KC[j]?) :
    Calls Try.prog 41 #[.slice (some ⟨b, 0, none⟩) 17 17, .func (.func 42) #[] #[.pointer (some ⟨g, 0, none⟩)]] w fun e w' => e = .returned (.int .i64 (opFirst s 17)) ∧ Below w.heap.size w w' := by
  have hu := Try.underlying47
  have eg : ∀ args w, (callFunc 42 args).run Try.prog w = .ok (.enter 42 args) w := fun args w => enters_ Try.func42 rfl rfl args w
  have hrow : ∀ (W : World), Below w.heap.size w W → ∀ j, j < 17 → W.cell? ⟨b, j * 4, none⟩ = some (.string (opName j)) ∧ W.cell? ⟨b, j * 4 + 1, none⟩ = some (.int .i64 (opFields j)) ∧ W.cell? ⟨b, j * 4 + 2, none⟩ = some (.int .i64 (opOff j)) ∧ W.cell? ⟨b, j * 4 + 3, none⟩ = some (.int .i64 (opOn j)) := fun W hW j hj => by
    have one : ∀ i v, i < 4 → (opRow j).toList[i]? = some v → W.cell? ⟨b, j * 4 + i, none⟩ = some v := fun i v h4 hi => by
      rw [hW.cell (p := ⟨b, j * 4 + i, none⟩) hb, hc _ (by omega)]
      exact kc_cells j hj i v hi
    exact ⟨one 0 _ (by omega) rfl, one 1 _ (by omega) rfl, one 2 _ (by omega) rfl, one 3 _ (by omega) rfl⟩
  clear hc
  go_enter Try.func41, Try.ntmps41
  go_wp2
  go_loopg [5, 8] 17 (fun gg _ s8 wr => ∃ kk : Nat, kk ≤ 17 ∧ 17 - kk ≤ gg ∧ s8 = .int .i64 kk ∧ Aside0 (Below w.heap.size w wr) ∧ Aside0 (opFirst s 17 = opFirst s (17 - kk)))
  case atStart => exact ⟨0, by omega, by omega, rfl, ⟨Below.refl _ w⟩, ⟨rfl⟩⟩
  case round =>
    obtain ⟨kk, hkk, hgk, rfl, BW, A⟩ := hrel
    by_cases hlt : kk < 17
    · have hltz : (kk : Int) < 17 := by omega
      obtain ⟨l0, l1, l2, l3⟩ := hrow wr BW.out kk hlt
      have hcall := fun (W : World) (hW : Below w.heap.size w W) => op_Find_1.calls kk s g W ((hW.cell (p := ⟨g, 0, none⟩) hg).trans hcn) (Nat.lt_of_lt_of_le hg hW.size)
      clear hrow
      have HC := Aside0.mk hcall
      clear hcall
      have hit := fun h => opFirst_hit s kk hlt h
      have miss := fun h => opFirst_miss s kk hlt h
      have HH := Aside0.mk hit
      have HM := Aside0.mk miss
      clear hit miss
      cases hq : opHas s kk with
      | true =>
        have HQ := Aside0.mk hq
        have HC2 : Aside0 (∀ W, Below w.heap.size w W → Calls Try.prog 42 #[.agg (opRow kk), .pointer (some ⟨g, 0, none⟩)] W fun e w' => e = .returned (.bool true) ∧ Below W.heap.size W w') := ⟨fun W hW => by have := HC.out W hW; rw [hq] at this; exact this⟩
        clear hq HC
        go_wp2_with (go_at_call 42; refine (HC2.out _ BW.out).mono ?_; rintro e w' ⟨rfl, hb'⟩)
        go_ret
        exact ⟨by rw [A.out, HH.out HQ.out]; rfl, BW.out.trans (hb'.mono BW.out.size)⟩
      | false =>
        have HQ := Aside0.mk hq
        have HC2 : Aside0 (∀ W, Below w.heap.size w W → Calls Try.prog 42 #[.agg (opRow kk), .pointer (some ⟨g, 0, none⟩)] W fun e w' => e = .returned (.bool false) ∧ Below W.heap.size W w') := ⟨fun W hW => by have := HC.out W hW; rw [hq] at this; exact this⟩
        clear hq HC
        go_wp2_with (go_at_call 42; refine (HC2.out _ BW.out).mono ?_; rintro e w' ⟨rfl, hb'⟩)
        go_roundg (17 - (kk + 1))
        case measure => omega
        case rel => exact ⟨kk + 1, by omega, by omega, by go_num, ⟨BW.out.trans (hb'.mono BW.out.size)⟩, ⟨by rw [A.out, HM.out HQ.out]⟩⟩
    · have hltz : ¬ (kk : Int) < 17 := by omega
      have : kk = 17 := by omega
      subst this
      clear hrow
      go_wp2
      go_ret
      exact ⟨by rw [A.out]; rfl, BW.out⟩
/-- the number of a name, as Find hands it back -/
def op_Find.f (a0 : ByteArray) : Option (Int × Bool) := some (if opFirst a0 17 < 0 then 0 else opFirst a0 17, decide (0 ≤ opFirst a0 17))
set_option maxHeartbeats 2000000 in
set_option maxRecDepth 100000 in
theorem op_Find.calls (a0 : ByteArray) (r1 : Int) (r2 : Bool) (w : World) (h : op_Find.f a0 = some (r1, r2)) :
    Calls Try.prog 24 #[.string a0] w fun e w' => e = .returned (.tuple #[.int .i64 r1, .bool r2]) ∧ Below w.heap.size w w' := by
  have hu := Try.underlying47
  unfold op_Find.f at h
  simp only [Option.some.injEq, Prod.mk.injEq] at h
  obtain ⟨rfl, rfl⟩ := h
  obtain ⟨Z, hz, hs⟩ := zeroKinds
  have HS := Aside0.mk hs
  clear hs
  have HI := fun b g W h1 h2 h3 h4 => op_IndexFunc.calls a0 b g W h1 h2 h3 h4
  generalize opFirst a0 17 = z at HI
  have HJ := Aside0.mk HI
  clear HI
  go_enter Try.func24, Try.ntmps24
  go_wp2_with (first | (go_at_call 40; (with_reducible refine (op_kinds.calls _).mono ?_); rintro e w1 ⟨rfl, hb⟩) | ((with_reducible refine gate_store (t := 48) rfl ?_); go_must (refine store_new (W := w1) 48 _ _ Z KC rfl rfl (by rfl) (by rfl) (by kernel_rfl) (HS.out.trans (by kernel_rfl)) (by kernel_rfl) ?_)) | (go_at_call 41; refine (HJ.out _ _ _ (by simp) (by have := hb.size; simp at this ⊢; omega) ((World.cell?_alloc_lt _ _ _ (by have := hb.size; simp at this ⊢; omega)).trans ((hb.cell (p := ⟨w.heap.size, 0, none⟩) (by simp)).trans (cell_of_row _ _ 0 _ _ (0, 0) (heap_alloc_new _ _)))) (fun j hj => cell_of_row _ _ j KC _ (0, 0) (heap_alloc_new _ _))).mono ?_; rintro e w2 ⟨rfl, hb2⟩))
  all_goals go_ret2
  all_goals exact ⟨rfl, ((((Below.refl _ _).alloc (Nat.le_refl _) _).trans (hb.mono (by simp))).alloc (by have := hb.size; simp at this ⊢; omega) _).trans (hb2.mono (by have := hb.size; simp at this ⊢; omega))⟩

/-! ### op_of: function 44 -/

/-! ### op_Stack: function 26 -/
def op_Stack.f (a0 : Int) : Option (Int × Int) := some (opOff (opNum a0), opOn (opNum a0))
set_option maxHeartbeats 400000 in
theorem op_Stack.calls (a0 : Int) (r1 : Int) (r2 : Int) (w : World) (h : op_Stack.f a0 = some (r1, r2)) :
    Calls Try.prog 26 #[.int .i64 a0] w fun e w' => e = .returned (.tuple #[.int .i64 r1, .int .i64 r2]) ∧ Below w.heap.size w w' := by
  have hu := Try.underlying47
  unfold op_Stack.f at h
  simp only [Option.some.injEq, Prod.mk.injEq] at h
  obtain ⟨rfl, rfl⟩ := h
  go_enter Try.func26, Try.ntmps26
  go_wp2_with (go_at_call 44; (with_reducible refine (op_of.calls a0 _).mono ?_); rintro e w1 ⟨rfl, hb⟩)
  go_quiet (fail)
  go_wp2
  go_ret2
  exact ⟨rfl, by repeat (first | exact hb | apply below_alloc | apply pw_below_drewN | apply below_drew1)⟩

/-! ### op_Name: function 27 -/
def op_Name.f (a0 : Int) : Option ByteArray := some (opName (opNum a0))
set_option maxHeartbeats 400000 in
theorem op_Name.calls (a0 : Int) (r : ByteArray) (w : World) (h : op_Name.f a0 = some r) :
    Calls Try.prog 27 #[.int .i64 a0] w fun e w' => e = .returned (.string r) ∧ Below w.heap.size w w' := by
  have hu := Try.underlying47
  have hfd : ∀ (a : ByteArray) (b c d : Int) (W : World), (Instr.field 47 (.agg #[.string a, .int .i64 b, .int .i64 c, .int .i64 d]) 0).run Try.prog W = .ok (.string a) W := fun a b c d W => by kernel_rfl
  obtain rfl := Option.some.inj h
  clear h
  go_enter Try.func27, Try.ntmps27
  go_wp2_with (go_at_call 44; (with_reducible refine (op_of.calls a0 _).mono ?_); rintro e w1 ⟨rfl, hb⟩)
  go_ret
  exact ⟨rfl, hb⟩

/-! ### op_Fields: function 29 -/
def op_Fields.f (a0 : Int) : Option Int := some (opFields (opNum a0))
set_option maxHeartbeats 400000 in
theorem op_Fields.calls (a0 : Int) (r : Int) (w : World) (h : op_Fields.f a0 = some r) :
    Calls Try.prog 29 #[.int .i64 a0] w fun e w' => e = .returned (.int .i64 r) ∧ Below w.heap.size w w' := by
  have hu := Try.underlying47
  have hfd : ∀ (a : ByteArray) (b c d : Int) (W : World), (Instr.field 47 (.agg #[.string a, .int .i64 b, .int .i64 c, .int .i64 d]) 1).run Try.prog W = .ok (.int .i64 b) W := fun a b c d W => by kernel_rfl
  obtain rfl := Option.some.inj h
  clear h
  go_enter Try.func29, Try.ntmps29
  go_wp2_with (go_at_call 44; (with_reducible refine (op_of.calls a0 _).mono ?_); rintro e w1 ⟨rfl, hb⟩)
  go_ret
  exact ⟨rfl, hb⟩

end Go.Proofs.Ytlkmomkpdmmjkaa.POpNames
