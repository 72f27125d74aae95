/- The machine's two contracts of the library's iterator and sort. No conditions. -/
import Derived.Test.YtifmjomfoilnnaaGreatVmF
import Derived.Test.YtifmjomfoilnnaaGreatVmSV
import Derived.Test.YtifmjomfoilnnaaGreatVmLay
set_option linter.unusedVariables false
set_option linter.unusedSimpArgs false
namespace Go.Proofs.YtifmjomfoilnnaaGreatW.Vm
open Go Go.Proofs Go.RowKit
/-! sorting -/
theorem insZ_perm (x : Int) : ∀ l : List Int, (insZ x l).Perm (x :: l)
  | [] => .refl _
  | y :: l => by
    unfold insZ
    split
    · exact .refl _
    · exact (List.Perm.cons y (insZ_perm x l)).trans (List.Perm.swap x y l)
theorem isortZ_perm : ∀ l : List Int, (isortZ l).Perm l
  | [] => .refl _
  | x :: l => (insZ_perm x _).trans ((isortZ_perm l).cons x)
theorem insZ_sorted (x : Int) : ∀ l : List Int, l.Pairwise (· ≤ ·) → (insZ x l).Pairwise (· ≤ ·)
  | [], _ => by simp [insZ]
  | y :: l, h => by
    obtain ⟨h1, h2⟩ := List.pairwise_cons.1 h
    unfold insZ
    split
    · rename_i hxy
      refine List.pairwise_cons.2 ⟨fun z hz => ?_, h⟩
      rcases List.mem_cons.1 hz with rfl | hz
      · exact hxy
      · exact Int.le_trans hxy (h1 z hz)
    · rename_i hxy
      refine List.pairwise_cons.2 ⟨fun z hz => ?_, insZ_sorted x l h2⟩
      rcases List.mem_cons.1 ((insZ_perm x l).mem_iff.1 hz) with rfl | hz
      · omega
      · exact h1 z hz
theorem isortZ_sorted : ∀ l : List Int, (isortZ l).Pairwise (· ≤ ·)
  | [] => .nil
  | x :: l => insZ_sorted x _ (isortZ_sorted l)
theorem sortedZ_unique {l l' : List Int} (h1 : l.Pairwise (· ≤ ·)) (h2 : l'.Pairwise (· ≤ ·)) (hp : l.Perm l') : l = l' :=
  List.Perm.eq_of_pairwise (le := fun a b : Int => a ≤ b) (fun a b _ _ h h' => Int.le_antisymm h h') h1 h2 hp
theorem merge_isort (l : List Int) : (l.mergeSort fun x y => decide (x ≤ y)) = isortZ l := by
  refine sortedZ_unique ?_ (isortZ_sorted l) ((List.mergeSort_perm l _).trans (isortZ_perm l).symm)
  have := List.pairwise_mergeSort (le := fun x y : Int => decide (x ≤ y)) (fun a b c h h' => by simp at *; omega) (fun a b => by simp; omega) l
  simpa using this
theorem isortZ_len (l : List Int) : (isortZ l).length = l.length := (isortZ_perm l).length_eq
theorem intsOfD_eq : ∀ (xs : List D) {l : List Int}, intsOfD xs = some l → xs = l.map fun n => .int .i64 n
  | [], l, h => by simp only [intsOfD, Option.some.injEq] at h; subst h; rfl
  | .int .i64 n :: xs, l, h => by
    simp only [intsOfD, Option.map_eq_some_iff] at h
    obtain ⟨l', h', rfl⟩ := h
    rw [intsOfD_eq xs h']; rfl
/-! rows of numbers -/
theorem row_get {w : World} {L : Nat → Nat → Prop} {b : Nat} : ∀ {l : List Int} {off : Nat}, RRow w L (l.map fun n => .int .i64 n) b off 1 → ∀ j, j < l.length → w.cell? ⟨b, off + j, none⟩ = some (.int .i64 (l[j]?.getD 0))
  | [], _, _, j, hj => by simp at hj
  | x :: l, off, h, j, hj => by
    cases h with
    | cons hl ht h r =>
      cases j with
      | zero =>
        simp only [D.cells] at h
        cases h with
        | cons h1 hc hl2 h2 _ => cases h2; simpa using hc
      | succ j =>
        have := row_get r j (by simpa using hj)
        simpa [Nat.add_assoc, Nat.add_comm 1 j] using this
theorem row_mk {w : World} {L : Nat → Nat → Prop} {b : Nat} (hL : ∀ off, ¬ L b off) : ∀ {l : List Int} {off : Nat}, (∀ j x, l[j]? = some x → w.cell? ⟨b, off + j, none⟩ = some (.int .i64 x)) → RRow w L (l.map fun n => .int .i64 n) b off 1
  | [], off, _ => .nil _ _ _
  | x :: l, off, h => by
    refine .cons rfl (fun ds e => by cases e) (.cons rfl (h 0 x rfl) (hL off) (.int _ _) (.nil _ _)) (row_mk hL fun j y hy => ?_)
    have := h (j + 1) y (by simpa using hy)
    simpa [Nat.add_assoc, Nat.add_comm 1 j] using this
theorem below_keeps {w w' : World} {L : Nat → Nat → Prop} (hb : Below w.heap.size w w') : Keeps w L w' L := fun b off u hc hl => ⟨(hb.cell (p := ⟨b, off, none⟩) (block_lt hc)).trans hc, hl⟩
theorem values_ok (args : List D) (r : D) (hr : valuesG 120 args = some r) (w : World) (L : Nat → Nat → Prop) (vs : Array Value) (hL : ∀ b off, L b off → b < w.heap.size) (ha : RCs w L args vs.toList) :
    Calls Tryz.prog 99 vs w fun e w' => ∃ v, e = .returned v ∧ Below w.heap.size w w' ∧ clean r = true ∧ RC w' L r v := by
  have fin : ∀ (d : D) (a : Option Addr) (len cap : Nat), d.cells = [d] → d.one = true → (∀ ds, d ≠ .tup ds) → clean d = true → RC w L d (.slice a len cap) →
      Calls Tryz.prog 99 #[.slice a len cap] w fun e w' => ∃ v, e = .returned v ∧ Below w.heap.size w w' ∧ clean (.clo (.func 120) [] [.fptr 1 [d] 0 0]) = true ∧ RC w' L (.clo (.func 120) [] [.fptr 1 [d] 0 0]) v := by
    intro d a len cap h1 h2 h3 h4 h5
    refine ((callsIn_wide (n := 1)).1 (Sv.values_in Fence.wide 1 trivial rfl a len cap w)).mono ?_
    rintro e w' ⟨rfl, rfl⟩
    have hb : Below w.heap.size w (w.alloc (.cells #[.slice a len cap] 30)) := (Below.refl _ w).alloc (Nat.le_refl _) _
    have hcell := (Boxed.new w 30 (.slice a len cap)).cell
    refine ⟨_, rfl, hb, by simp [clean, cleans], ?_⟩
    refine .clo .nil (.cons (.fptr (b := w.heap.size) (off := 0) (.cons (by rw [h1]; rfl) h3 ?_ (.nil _ _ _)) (by decide)) .nil)
    rw [h1]
    exact .cons h2 hcell (fun h => absurd (hL _ _ h) (Nat.lt_irrefl _)) (h5.keep (below_keeps hb)) (.nil _ _)
  obtain ⟨l⟩ := vs
  unfold valuesG at hr
  split at hr
  · cases hr
    cases ha with | cons h1 h2 => cases h2; cases h1; exact fin .snil none 0 0 rfl rfl (fun ds e => by cases e) rfl .snil
  · cases hr
    cases ha with
    | cons h1 h2 =>
      cases h2
      have h1' := h1
      cases h1 with | sl hr hz hc ht ha => exact fin _ _ _ _ rfl rfl (fun ds e => by cases e) rfl h1'
  · cases hr
theorem sorted_ok (args : List D) (r : D) (hr : sortedG 120 args = some r) (w : World) (L : Nat → Nat → Prop) (vs : Array Value) (hL : ∀ b off, L b off → b < w.heap.size) (ha : RCs w L args vs.toList) :
    Calls Tryz.prog 98 vs w fun e w' => ∃ v, e = .returned v ∧ Below w.heap.size w w' ∧ clean r = true ∧ RC w' L r v := by
  have opn : ∀ {f : Fn} {d : D} {l : List Value}, d.cells = [d] → RCs w L [.clo f [] [.fptr 1 [d] 0 0]] l → ∃ b off u, l = [.func f #[] #[.pointer (some ⟨b, off, none⟩)]] ∧ w.cell? ⟨b, off, none⟩ = some u ∧ RC w L d u := by
    intro f d l hd h
    cases h with
    | cons h1 h2 =>
      cases h2
      cases h1 with
      | @clo _ _ _ a' b' h1 h2 =>
        obtain ⟨a'⟩ := a'; obtain ⟨b'⟩ := b'
        cases h1
        cases h2 with
        | cons h3 h4 =>
          cases h4
          cases h3 with
          | @fptr _ b off _ _ _ h5 hz =>
            cases h5 with
            | cons hl ht h6 h7 =>
              rw [hd] at h6
              cases h6 with
              | cons k1 k2 k3 k4 k5 => exact ⟨b, off, _, rfl, k2, k4⟩
  have fin : ∀ (zs : List Int) (b off : Nat) (u : Value), zs.length ≤ 2 ^ 40 → w.cell? ⟨b, off, none⟩ = some u → Sv.Ints w.heap.size w u zs →
      Calls Tryz.prog 98 #[.func (.func 120) #[] #[.pointer (some ⟨b, off, none⟩)]] w fun e w' => ∃ v, e = .returned v ∧ Below w.heap.size w w' ∧
        clean (if zs = [] then .snil else .sl 1 ((isortZ zs).map fun n => .int .i64 n) false) = true ∧ RC w' L (if zs = [] then .snil else .sl 1 ((isortZ zs).map fun n => .int .i64 n) false) v := by
    intro zs b off u hlen hc hI
    have hml : maxLen = 2 ^ 63 - 1 := rfl
    refine ((callsIn_wide (n := 5)).1 (Sv.sorted_in 5 (Nat.le_refl _) b off u zs (by omega) (by omega) w (block_lt hc) hc hI)).mono ?_
    rintro e w' ⟨v, rfl, hrow, hnil, hb⟩
    refine ⟨v, rfl, hb, ?_⟩
    by_cases hz : zs = []
    · rw [if_pos hz]
      obtain rfl := hnil.2 hz
      exact ⟨rfl, .snil⟩
    · rw [if_neg hz]
      have hcl : ∀ l : List Int, cleans (l.map fun n => D.int .i64 n) = true := fun l => by induction l with | nil => rfl | cons x l ih => simp [cleans, clean, ih]
      refine ⟨by simp [clean], ?_⟩
      rcases hrow.2 with ⟨rfl, h0⟩ | ⟨g, cap, cur, rfl, hbase, hg, h1, h2, h3, h4⟩
      · exact absurd (hnil.1 rfl) hz
      · have hl : ((isortZ zs).map fun n => D.int .i64 n).length = zs.length := by rw [List.length_map, isortZ_len]
        rw [merge_isort] at hrow
        have := RC.sl (w := w') (L := L) (z := 1) (b := g) (off := 0) (cap := cap) (t := false) (a := ⟨g, 0, none⟩) (xs := (isortZ zs).map fun n => .int .i64 n) (row_mk (fun off h => by have := hL _ _ h; omega) (fun j x hj => by
          rw [Nat.zero_add, hrow.cellAt j (by have := (List.getElem?_eq_some_iff.1 hj).1; rw [isortZ_len] at this; omega), List.getElem?_map, hj]; rfl)) (by decide) (by rw [hl]; exact h1) (by intro h; cases h) (fun _ => rfl)
        rw [hl] at this
        exact this
  obtain ⟨l⟩ := vs
  unfold sortedG at hr
  split at hr
  · rename_i f
    split at hr
    · rename_i hf
      cases hr
      subst hf
      obtain ⟨b, off, u, rfl, hc, hu⟩ := opn rfl ha
      cases hu
      exact fin [] b off _ (by simp) hc (.inl ⟨⟨_, _, rfl⟩, rfl⟩)
    · cases hr
  · rename_i f xs t
    split at hr
    · rename_i hf
      obtain ⟨rfl, hlen⟩ := hf
      simp only [Option.map_eq_some_iff] at hr
      obtain ⟨zs, hzs, rfl⟩ := hr
      have hx := intsOfD_eq xs hzs
      subst hx
      rw [List.length_map] at hlen
      obtain ⟨b, off, u, rfl, hc, hu⟩ := opn rfl ha
      refine fin zs b off u hlen hc ?_
      cases hu with
      | @sl _ b2 off2 cap _ a _ hr hz hcap ht ha =>
        by_cases h0 : zs = []
        · subst h0; exact .inl ⟨⟨some a, cap, rfl⟩, rfl⟩
        · have hpos : 0 < zs.length := List.length_pos_iff.2 h0
          have ha2 := ha (by rw [List.length_map] at hcap; omega)
          subst ha2
          have hg := row_get hr
          refine .inr ⟨b2, off2, cap, by rw [List.length_map], block_lt (hg 0 hpos), hg⟩
    · cases hr
  · cases hr
theorem cfg_ext (f : Nat) : cfg.ext f = if f = 99 then some (valuesG 120) else if f = 98 then some (sortedG 120) else none := rfl
theorem ext_ok : ExtOk Tryz.prog cfg := ⟨fun f g hg => by
  rw [cfg_ext] at hg
  split at hg
  · rename_i h
    subst h; cases hg
    exact ⟨⟨_, Tryz.func99, by kernel_rfl, by kernel_rfl⟩, values_ok⟩
  · split at hg
    · rename_i h
      subst h; cases hg
      exact ⟨⟨_, Tryz.func98, by kernel_rfl, by kernel_rfl⟩, sorted_ok⟩
    · cases hg⟩
#print axioms ext_ok
end Go.Proofs.YtifmjomfoilnnaaGreatW.Vm
