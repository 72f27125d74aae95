/- Deques. No conditions. -/
import Derived.Test.YtifmjomfoilnnaaGreatVmXA
set_option linter.unusedVariables false
set_option linter.unusedSimpArgs false
namespace Go.Proofs.YtifmjomfoilnnaaGreatW.Rn
open Go.Proofs.YtifmjomfoilnnaaGreatW.Vm Go.Proofs.YtifmjomfoilnnaaGreatW.Md Go.Proofs.YtifmjomfoilnnaaGreatW.Rg
open Go Go.Proofs
abbrev Ref := Rf
structure Ring where
  buf : Option (List Ref)
  head : Int
  many : Int
  most : Int
  deriving DecidableEq
def Ring.l (r : Ring) : List Ref := r.buf.getD []
@[reducible] def encRing (r : Ring) : D := .agg [encL 2 encRf r.buf, I r.head, I r.many, I r.most]
theorem encNl {α : Type} (z : Nat) (e : α → D) : encL z e none = .snil := rfl
theorem encSl {α : Type} (z : Nat) (e : α → D) (l : List α) : encL z e (some l) = .sl z (l.map e) false := rfl
theorem beqs_refs : ∀ rs : List Ref, beqs (rs.map encRf) (rs.map encRf) = true
  | [] => by simp
  | x :: rs => by simp [beqs_refs rs]
@[simp] theorem beq_encS (b : Option (List Ref)) : beq (encL 2 encRf b) (encL 2 encRf b) = true := by cases b <;> simp [encL, beqs_refs]
def inb (n a b : Int) : Bool := decide (a ≤ n) && decide (n ≤ b)
theorem in_spec (n a b : Int) : fnc Tryz.prog cfg R 71 [I n, I a, I b] = some (.bool (inb n a b)) := by
  rw [fnc_at rfl, body_eq Tryz.func71 rfl rfl]
  by_cases h1 : a ≤ n <;> by_cases h2 : n ≤ b <;> simp [argsσ, encNl, encSl, Vm.results, h1, h2, inb]
def may (r : Ring) : Bool := inb r.most 1 1024 && inb r.l.length 1 r.most && inb r.head 0 ((r.l.length : Int) - 1) && inb r.many 0 r.l.length
theorem may_spec (r : Ring) (hl : r.l.length < 2 ^ 62) : fnc Tryz.prog cfg R 73 [encRing r] = some (.bool (may r)) := by
  have hw : IntKind.i64.wrap ((r.l.length : Int) - 1) = (r.l.length : Int) - 1 := IntWalk.i64_in _ (by omega)
  rw [fnc_at rfl, body_eq Tryz.func73 rfl rfl]
  have hl : (r.buf.getD []).length = r.l.length := rfl
  cases h1 : inb r.most 1 1024 <;> cases h2 : inb r.l.length 1 r.most <;> cases h3 : inb r.head 0 ((r.l.length : Int) - 1) <;>
  simp [argsσ, encNl, encSl, Vm.results, in_spec, hl, hw, h1, h2, h3, may]
/-- place: of a ring with places -/
theorem place_spec (r : Ring) (i : Int) (hl : r.l.length < 2 ^ 62) (h0 : 0 < r.l.length) (hh : 0 ≤ r.head ∧ r.head < 2 ^ 61) (hi : 0 ≤ i ∧ i < 2 ^ 61) :
    fnc Tryz.prog cfg R 102 [encRing r, I i] = some (I ((r.head + i).tmod r.l.length)) := by
  have hw : IntKind.i64.wrap (r.head + i) = r.head + i := IntWalk.i64_in _ (by omega)
  have hn : (r.l.length : Int) ≠ 0 := by omega
  have hl : (r.buf.getD []).length = r.l.length := rfl
  rw [fnc_at rfl, body_eq Tryz.func102 rfl rfl]
  have e : ∀ t x y a, binD Tryz.prog .rem t x y (I a) (I r.l.length) = some (I (a.tmod r.l.length)) := fun t x y a => bin_rem _ t x y .i64 a _ hn
  simp [argsσ, encNl, encSl, Vm.results, hl, hw, e]
def rf0 : Ref := ⟨0, 0⟩
/-- the item of a number -/
def item (r : Ring) (j : Nat) : Ref := r.l.getD ((r.head.toNat + j) % r.l.length) rf0
def items (r : Ring) : List Ref := (List.range r.many.toNat).map (item r)
/-- a ring that may be -/
structure Ok (r : Ring) : Prop where
  h1 : 1 ≤ r.l.length
  h2 : (r.l.length : Int) ≤ r.most
  h3 : r.most ≤ 1024
  h4 : 0 ≤ r.head
  h5 : r.head < r.l.length
  h6 : 0 ≤ r.many
  h7 : r.many ≤ r.l.length
theorem may_iff (r : Ring) : may r = true ↔ Ok r := by
  simp only [may, inb, Bool.and_eq_true, decide_eq_true_eq]
  constructor
  · intro h; exact ⟨by omega, by omega, by omega, by omega, by omega, by omega, by omega⟩
  · intro h; have := h.h1; have := h.h2; have := h.h3; have := h.h4; have := h.h5; have := h.h6; have := h.h7; omega
theorem place_nat {a b n : Nat} : (((a : Int) + b).tmod n) = ((a + b) % n : Nat) := by
  rw [show ((a : Int) + b) = ((a + b : Nat) : Int) by simp, Int.tmod_eq_emod_of_nonneg (by omega)]; rfl
theorem place_ok (r : Ring) (h : Ok r) (j : Nat) (hj : j < 2 ^ 60) : fnc Tryz.prog cfg R 102 [encRing r, I j] = some (I ((r.head.toNat + j) % r.l.length : Nat)) := by
  have := h.h1; have := h.h2; have := h.h3; have := h.h4; have := h.h5
  rw [place_spec r j (by omega) (by omega) (by omega) (by omega)]
  rw [← place_nat, Int.toNat_of_nonneg h.h4]
theorem l_get (r : Ring) {i : Nat} (hi : i < r.l.length) : ((r.buf.getD []).map encRf)[i]? = some (encRf (r.l.getD i rf0)) := by
  have : r.l[i]? = some r.l[i] := List.getElem?_eq_getElem hi
  simp [List.getElem?_map, show r.buf.getD [] = r.l from rfl, this, List.getD_eq_getElem?_getD]
theorem ix_encS (b : Option (List Ref)) (i : Int) (hi : 0 ≤ i ∧ i < ((b.getD []).length : Int)) : indexAddrD Tryz.prog 34 (encL 2 encRf b) (I i) = some (.fptr 2 ((b.getD []).map encRf) i.toNat 0) := by
  cases b with
  | none => simp at hi; omega
  | some l => exact ix_sl un34 sz36 _ _ _ _ (by simpa using hi)
@[simp] theorem cleans_refs : ∀ rs : List Ref, cleans (rs.map encRf) = true
  | [] => rfl
  | x :: rs => by simp [cleans_refs rs]
theorem set_refs (rs : List Ref) (i : Nat) (x : Ref) : (rs.map encRf).set i (encRf x) = (rs.set i x).map encRf := by simp [List.map_set]
theorem items_loop (r : Ring) (h : Ok r) (n : Nat) (hn : r.many = n) {X : Type} (K : Ex × St → Option X) (x : X) : ∀ (m i : Nat) (rs : List Ref) (σ : Nat → D), i + m = n → rs.length = n → (∀ j, j < i → rs[j]? = some (item r j)) →
    σ 1 = .ptr 0 0 0 0 → σ 3 = .own 2 1 0 0 n → σ 10 = I n → σ 11 = I i →
    (∀ σ', σ' 3 = .own 2 1 0 0 n → K (.exit 0, ⟨σ', [⟨0, 4, [encRing r], 0⟩, ⟨0, 2, (items r).map encRf, 0⟩], 27⟩) = some x) →
    (W Tryz.prog cfg (.loop (loopAt Tryz.f74 3)) ⟨σ, [⟨0, 4, [encRing r], 0⟩, ⟨0, 2, rs.map encRf, 0⟩], 27⟩).bind K = some x
  | 0, i, rs, σ, hm, hl, he, s1, s3, s10, s11, hK => by
    have e : rs = items r := by
      apply List.ext_getElem?
      intro j
      by_cases hj : j < i
      · rw [he j hj]; simp [items, List.getElem?_range (show j < r.many.toNat by omega)]
      · rw [List.getElem?_eq_none (by omega), List.getElem?_eq_none (by simp [items]; omega)]
    rw [Wloop]
    have hlt : ¬ (i < n) := by omega
    conv => lhs; arg 1; arg 1; simp [loopAt, loopIn, headId, Tryz.f74, s10, s11, hlt]
    subst e
    exact hK _ (by simp [s3])
  | m + 1, i, rs, σ, hm, hl, he, s1, s3, s10, s11, hK => by
    rw [Wloop]
    have hlt : i < n := by omega
    have := h.h1; have := h.h2; have := h.h3; have := h.h6; have := h.h7
    have hp := place_ok r h i (by omega)
    have hpl : (r.head.toNat + i) % r.l.length < r.l.length := Nat.mod_lt _ (by omega)
    generalize hq : (r.head.toNat + i) % r.l.length = q at hp hpl
    have hit : item r i = r.l.getD q rf0 := by rw [item, hq]
    have hix := ix_encS r.buf q (by constructor; omega; exact_mod_cast hpl)
    have hii := ix_own (P := Tryz.prog) un34 sz36 1 0 0 n .i64 i (by omega)
    rw [show (0 + (i : Int).toNat) = i by simp] at hii
    rw [show (q : Int).toNat = q by simp] at hix
    have hd := dr74_5
    simp [opsAt, opsIn, Tryz.f74] at hd
    have hdw := Wdraw0 hd
    have hg := l_get r hpl
    rw [← hit] at hg
    have hge : rs[i]? = some rs[i] := List.getElem?_eq_getElem (by omega)
    have hwr : IntKind.i64.wrap ((i : Int) + 1) = i + 1 := IntWalk.i64_in _ (by omega)
    conv => lhs; arg 1; arg 1; simp [loopAt, loopIn, headId, Tryz.f74, s1, s3, s10, s11, hlt, hdw, hp, hix, hii, hg, hge, hwr, fnc_nomark]
    rw [Option.bind_some, loopK_normal, set_refs]
    refine items_loop r h n hn K x m (i + 1) _ _ (by omega) (by simp [hl]) ?_ (by simp [s1]) (by simp [s3]) (by simp [s10]) (by simp) hK
    intro j hj
    by_cases e : j = i
    · subst e; simp [List.getElem?_set, hl, hlt]
    · simp [List.getElem?_set, Ne.symm e, he j (by omega)]
theorem items33 (r : Ring) (h : Ok r) : fnc Tryz.prog cfg R 74 [encRing r] = some (.sl 2 ((items r).map encRf) false) := by
  rw [fnc_at rfl, body_eq Tryz.func74 rfl rfl]
  obtain ⟨n, hn⟩ : ∃ n : Nat, r.many = n := ⟨r.many.toNat, by have := h.h6; omega⟩
  have := h.h1; have := h.h2; have := h.h3; have := h.h6; have := h.h7
  have hmk := fun (hp : List Ob) => mk_slice (P := Tryz.prog) el34 sz36 by36 ze36 (by simp) (by decide) (by decide) hp .i64 .i64 n n (by omega) (by omega) (by omega)
  simp [argsσ, hn, hmk, -Option.map_eq_map, Option.bind_assoc]
  rw [show List.replicate n (D.agg [D.int .i64 0, D.int .i64 0]) = (List.replicate n rf0).map encRf from by simp [rf0]]
  refine items_loop r h n hn _ _ n 0 _ _ (by omega) (by simp) (by simp) (by simp) (by simp) (by simp) (by simp) ?_
  intro σ' h3
  have hlen : (items r).length = n := by simp [items, hn]
  simp [h3, Vm.results, exp_own, elsOf_own, hlen, cleans_refs, List.take_of_length_le]
theorem may_ok {r : Ring} (h : Ok r) : fnc Tryz.prog cfg R 73 [encRing r] = some (.bool true) := by
  have := h.h1; have := h.h2; have := h.h3
  rw [may_spec r (by omega), (may_iff r).2 h]
theorem may_no {r : Ring} (hl : r.l.length < 2 ^ 62) (h : ¬ Ok r) : fnc Tryz.prog cfg R 73 [encRing r] = some (.bool false) := by
  rw [may_spec r hl]
  cases hm : may r with
  | true => exact absurd ((may_iff r).1 hm) h
  | false => rfl
theorem Items_ok {r : Ring} (h : Ok r) : fnc Tryz.prog cfg R 44 [encRing r] = some (encL 2 encRf (some (items r))) := by
  rw [fnc_at rfl, body_eq Tryz.func44 rfl rfl]
  rw [show encL 2 encRf (some (items r)) = .sl 2 ((items r).map encRf) false from rfl]
  simp [argsσ, encNl, encSl, Vm.results, may_ok h, items33 r h]
theorem Items_no {r : Ring} (hl : r.l.length < 2 ^ 62) (h : ¬ Ok r) : fnc Tryz.prog cfg R 44 [encRing r] = some .snil := by
  rw [fnc_at rfl, body_eq Tryz.func44 rfl rfl]
  simp [argsσ, encNl, encSl, Vm.results, may_no hl h]
def newRing (room most : Int) : Ring := { buf := some (List.replicate room.toNat rf0), head := 0, many := 0, most := most }
def noRing : Ring := { buf := none, head := 0, many := 0, most := 0 }
theorem rep_refs (n : Nat) : List.replicate n (D.agg [D.int .i64 0, D.int .i64 0]) = (List.replicate n rf0).map encRf := by simp [rf0]
theorem new_ok (room most : Int) (h1 : inb most 1 1024 = true) (h2 : inb room 1 most = true) : fnc Tryz.prog cfg R 39 [I room, I most] = some (.tup [encRing (newRing room most), .bool true]) := by
  have hb : 1 ≤ room ∧ room ≤ most ∧ most ≤ 1024 := by simp [inb] at h1 h2; omega
  obtain ⟨n, hn⟩ : ∃ n : Nat, room = n := ⟨room.toNat, by omega⟩
  subst hn
  have hmk := fun (hp : List Ob) => mk_slice (P := Tryz.prog) el34 sz36 by36 ze36 (by simp) (by decide) (by decide) hp .i64 .i64 n n (by omega) (by omega) (by omega)
  rw [show ((n : Int).toNat) = n by simp] at hmk
  rw [rep_refs] at hmk
  rw [fnc_at rfl, body_eq Tryz.func39 rfl rfl]
  simp [argsσ, encNl, encSl, Vm.results, in_spec, h1, h2, hmk, newRing, exp_own, elsOf_own, List.take_of_length_le, cleans_refs, encRing, -List.map_replicate]
theorem new_no (room most : Int) (h : (inb most 1 1024 && inb room 1 most) = false) : fnc Tryz.prog cfg R 39 [I room, I most] = some (.tup [encRing noRing, .bool false]) := by
  rw [fnc_at rfl, body_eq Tryz.func39 rfl rfl]
  cases h1 : inb most 1 1024 with
  | false => simp [argsσ, encNl, encSl, Vm.results, in_spec, h1, noRing]
  | true =>
    have h2 : inb room 1 most = false := by simpa [h1] using h
    simp [argsσ, encNl, encSl, Vm.results, in_spec, h1, h2, noRing]
theorem small_spec (r : Ring) : fnc Tryz.prog cfg R 29 [encRing r] = some (.bool (decide (r.l.length ≤ 60))) := by
  have hl : (r.buf.getD []).length = r.l.length := rfl
  rw [fnc_at rfl, body_eq Tryz.func29 rfl rfl]
  simp [argsσ, encNl, encSl, Vm.results, hl]
  omega
theorem rmay_spec (r : Ring) : fnc Tryz.prog cfg R 24 [encRing r] = some (.bool (may r)) := by
  have hl : (r.buf.getD []).length = r.l.length := rfl
  rw [fnc_at rfl, body_eq Tryz.func24 rfl rfl]
  have c1 : decide (1 ≤ r.most) = true ∨ decide (1 ≤ r.most) = false := by cases decide (1 ≤ r.most) <;> simp
  cases h1 : decide (1 ≤ r.most)
  · have hm : may r = false := by simp [may, inb, h1]
    simp [argsσ, encNl, encSl, Vm.results, hl, h1, hm]
  cases h2 : decide (r.most ≤ 1024)
  · have hm : may r = false := by simp [may, inb, h1, h2]
    simp [argsσ, encNl, encSl, Vm.results, hl, h1, h2, hm]
  cases h3 : decide ((1 : Int) ≤ r.l.length)
  · have hm : may r = false := by simp [may, inb, h1, h2, h3]
    simp [argsσ, encNl, encSl, Vm.results, hl, h1, h2, h3, hm]
  cases h4 : decide ((r.l.length : Int) ≤ r.most)
  · have hm : may r = false := by simp [may, inb, h1, h2, h3, h4]
    simp [argsσ, encNl, encSl, Vm.results, hl, h1, h2, h3, h4, hm]
  cases h5 : decide (0 ≤ r.head)
  · have hm : may r = false := by simp [may, inb, h1, h2, h3, h4, h5]
    simp [argsσ, encNl, encSl, Vm.results, hl, h1, h2, h3, h4, h5, hm]
  cases h6 : decide (r.head < r.l.length)
  · have hm : may r = false := by
      have : decide (r.head ≤ (r.l.length : Int) - 1) = false := by simp at h6 ⊢; omega
      simp [may, inb, h1, h2, h3, h4, h5, this]
    simp [argsσ, encNl, encSl, Vm.results, hl, h1, h2, h3, h4, h5, h6, hm]
  cases h7 : decide (0 ≤ r.many)
  · have hm : may r = false := by simp [may, inb, h1, h2, h3, h4, h5, h7]
    simp [argsσ, encNl, encSl, Vm.results, hl, h1, h2, h3, h4, h5, h6, h7, hm]
  cases h8 : decide (r.many ≤ r.l.length)
  · have hm : may r = false := by simp [may, inb, h1, h2, h3, h4, h5, h7, h8]
    simp [argsσ, encNl, encSl, Vm.results, hl, h1, h2, h3, h4, h5, h6, h7, h8, hm]
  have hm : may r = true := by
    have : decide (r.head ≤ (r.l.length : Int) - 1) = true := by simp at h6 ⊢; omega
    simp only [may, inb, h1, h2, h3, h4, h5, h7, h8, this]; rfl
  simp [argsσ, encNl, encSl, Vm.results, hl, h1, h2, h3, h4, h5, h6, h7, h8, hm]
theorem take_refs (l : List Ref) : (l.map encRf).take l.length = l.map encRf := by rw [List.take_of_length_le (by simp)]
theorem mod_two {a n : Nat} (h : a < 2 * n) : a % n = if a < n then a else a - n := by
  split
  · exact Nat.mod_eq_of_lt ‹_›
  · rw [Nat.mod_eq_sub_mod (by omega), Nat.mod_eq_of_lt (by omega)]
theorem items_len {r : Ring} (h : Ok r) : (items r).length = r.many.toNat := by simp [items]
theorem items_get (r : Ring) {j : Nat} (hj : j < r.many.toNat) : (items r)[j]? = some (item r j) := by simp [items, List.getElem?_range hj]
theorem cl_refs : ∀ l : List Ref, cleans (l.map encRf) = true
  | [] => rfl
  | x :: l => by simp [cl_refs l]
/-! what the document's answer computes -/
theorem rnew_ok (room most : Int) (h1 : inb most 1 1024 = true) (h2 : inb room 1 most = true) : fnc Tryz.prog cfg R 41 [I room, I most] = some (.tup [encRing (newRing room most), .bool true]) := by
  have hb : 1 ≤ room ∧ room ≤ most ∧ most ≤ 1024 := by simp [inb] at h1 h2; omega
  obtain ⟨n, hn⟩ : ∃ n : Nat, room = n := ⟨room.toNat, by omega⟩
  have c1 : decide (most < 1) = false := decide_eq_false (by omega)
  have c2 : decide (1024 < most) = false := decide_eq_false (by omega)
  have c3 : decide (room < 1) = false := decide_eq_false (by omega)
  have c4 : decide (most < room) = false := decide_eq_false (by omega)
  have hmk := fun (hp : List Ob) => mk_slice (P := Tryz.prog) el34 sz36 by36 ze36 (by simp) (by decide) (by decide) hp .i64 .i64 room room (by omega) (by omega) (by omega)
  rw [show room.toNat = n by omega] at hmk
  rw [rep_refs] at hmk
  have e : newRing room most = { buf := some (List.replicate n rf0), head := 0, many := 0, most := most } := by unfold newRing; rw [show room.toNat = n by omega]
  rw [fnc_at rfl, body_eq Tryz.func41 rfl rfl, e]
  simp [argsσ, encNl, encSl, Vm.results, c1, c2, c3, c4, hmk, exp_own, elsOf_own, List.take_of_length_le, cleans_refs, encRing, -List.map_replicate]
theorem rnew_no (room most : Int) (h : (inb most 1 1024 && inb room 1 most) = false) : fnc Tryz.prog cfg R 41 [I room, I most] = some (.tup [encRing noRing, .bool false]) := by
  rw [fnc_at rfl, body_eq Tryz.func41 rfl rfl]
  cases c1 : decide (most < 1)
  case true => simp [argsσ, encNl, encSl, Vm.results, c1, noRing]
  cases c2 : decide (1024 < most)
  case true => simp [argsσ, encNl, encSl, Vm.results, c1, c2, noRing]
  cases c3 : decide (room < 1)
  case true => simp [argsσ, encNl, encSl, Vm.results, c1, c2, c3, noRing]
  cases c4 : decide (most < room)
  case true => simp [argsσ, encNl, encSl, Vm.results, c1, c2, c3, c4, noRing]
  have := of_decide_eq_false c1; have := of_decide_eq_false c2; have := of_decide_eq_false c3; have := of_decide_eq_false c4
  exfalso
  have e1 : inb most 1 1024 = true := by simp [inb]; omega
  have e2 : inb room 1 most = true := by simp [inb]; omega
  rw [e1, e2] at h; cases h
theorem rmay_ok {r : Ring} (h : Ok r) : fnc Tryz.prog cfg R 24 [encRing r] = some (.bool true) := by rw [rmay_spec, (may_iff r).2 h]
theorem rmay_no {r : Ring} (h : ¬ Ok r) : fnc Tryz.prog cfg R 24 [encRing r] = some (.bool false) := by
  rw [rmay_spec]
  cases hm : may r with
  | true => exact absurd ((may_iff r).1 hm) h
  | false => rfl
/-- a list that grows by appends, from nothing -/
def outD (b : Nat) (l : List Ref) (ver : Nat) : D := if l = [] then .sl 2 [] true else .own 2 b ver 0 l.length
def outH (l : List Ref) (ver : Nat) : List Ob := if l = [] then [] else [⟨ver, 2, l.map encRf, 0⟩]
def outV (l : List Ref) (ver : Nat) : Nat := if l = [] then 0 else ver + 1
theorem outD_nil (b ver : Nat) : outD b [] ver = .sl 2 [] true := rfl
theorem outH_nil (ver : Nat) : outH [] ver = [] := rfl
theorem out_els (h0 : List Ob) (b : Nat) (hb : h0.length = b) (l : List Ref) (ver : Nat) : elsZ (h0 ++ outH l ver) 2 (outD b l ver) = some (l.map encRf) := by
  subst hb
  unfold outH outD
  by_cases hl : l = []
  · subst hl; simp [encSl]
  · simp only [if_neg hl]
    rw [elsZ_own, elsOf_own, get_app0 rfl]
    simp only [List.getElem?_cons_zero, Option.bind_some]
    rw [if_pos (by simp), List.drop_zero, take_refs]
theorem out_app (h0 : List Ob) (b : Nat) (hb : h0.length = b) (l : List Ref) (ver : Nat) (x : Ref) (hl : l.length < 2 ^ 40) :
    apK 16 2 (h0 ++ outH l ver) (outD b l ver) (l.map encRf) [encRf x] = some (outD b (l ++ [x]) (outV l ver), h0 ++ outH (l ++ [x]) (outV l ver)) := by
  subst hb
  rw [apK_ok (by simp only [List.length_cons, List.length_nil, List.length_map]; omega)]
  unfold outH outD outV
  by_cases h : l = []
  · subst h; simp [apN_sl', newOb]
  · simp only [if_neg h]
    rw [apN_own' (by simp), get_app0 rfl]
    simp [set_app0]
theorem out_exp (h0 : List Ob) (b : Nat) (hb : h0.length = b) (l : List Ref) (ver : Nat) : exp1 (h0 ++ outH l ver) (outD b l ver) = some (encL 2 encRf (some l)) := by
  subst hb
  unfold outH outD
  by_cases hl : l = []
  · subst hl; simp [encSl]
  · simp only [if_neg hl]
    rw [exp_own, elsOf_own, get_app0 rfl]
    simp only [List.getElem?_cons_zero, Option.bind_some]
    rw [if_pos (by simp), List.drop_zero, take_refs, Option.bind_some, ownK_clean _ _ _ (cl_refs l)]
    rfl
theorem ritems_loop (r : Ring) (h : Ok r) {X : Type} (K : Ex × St → Option X) (Q : Option X → Prop) : ∀ (m i : Nat) (ver : Nat) (σ : Nat → D), i + m = r.many.toNat →
    σ 1 = .ptr 0 0 0 0 → σ 3 = outD 1 ((items r).take i) ver → σ 4 = I i →
    (∀ σ' ver', σ' 3 = outD 1 (items r) ver' → Q (K (.exit 0, ⟨σ', [⟨0, 4, [encRing r], 0⟩] ++ outH (items r) ver', 40⟩))) →
    Q ((W Tryz.prog cfg (.loop (loopAt Tryz.f23 3)) ⟨σ, [⟨0, 4, [encRing r], 0⟩] ++ outH ((items r).take i) ver, 40⟩).bind K) := by
  intro m
  induction m with
  | zero =>
    intro i ver σ hm s1 s3 s4 hK
    have := h.h6
    have e : decide ((i : Int) < r.many) = false := decide_eq_false (by omega)
    have hil := items_len h
    rw [List.take_of_length_le (by omega)] at s3 ⊢
    have h0 : ([(⟨0, 4, [encRing r], 0⟩ : Ob)] ++ outH (items r) ver)[0]? = some ⟨0, 4, [encRing r], 0⟩ := rfl
    have hK' := fun σ' => hK σ' ver
    generalize [(⟨0, 4, [encRing r], 0⟩ : Ob)] ++ outH (items r) ver = H at *
    rw [Wloop]
    conv => arg 1; arg 1; arg 1; simp [loopAt, loopIn, headId, Tryz.f23, s1, s4, h0, e]
    exact hK' _ (by simp [s3])
  | succ m ih =>
    intro i ver σ hm s1 s3 s4 hK
    have := h.h1; have := h.h2; have := h.h3; have := h.h4; have := h.h5; have := h.h6; have := h.h7
    have e : decide ((i : Int) < r.many) = true := decide_eq_true (by omega)
    obtain ⟨hd, hhd⟩ : ∃ n : Nat, r.head = n := ⟨r.head.toNat, by omega⟩
    have hq : (hd + i) % r.l.length = if hd + i < r.l.length then hd + i else hd + i - r.l.length := mod_two (by omega)
    have hit : item r i = r.l.getD ((hd + i) % r.l.length) rf0 := by rw [item, hhd]; rfl
    have hql : (hd + i) % r.l.length < r.l.length := Nat.mod_lt _ (by omega)
    have hw1 : IntKind.i64.wrap (r.head + i) = r.head + i := IntWalk.i64_in _ (by omega)
    have hwi : IntKind.i64.wrap ((i : Int) + 1) = ((i + 1 : Nat) : Int) := IntWalk.i64_in _ (by omega)
    obtain ⟨q, hqq⟩ : ∃ q, (hd + i) % r.l.length = q := ⟨_, rfl⟩
    rw [hqq] at hq hit hql
    have hg := l_get r hql
    rw [← hit] at hg
    have hix := ix_encS r.buf q (by constructor; omega; show (q : Int) < r.l.length; omega)
    rw [show (q : Int).toNat = q by simp] at hix
    have hbl : (r.buf.getD []).length = r.l.length := rfl
    have htl : ((items r).take i).length = i := by rw [List.length_take, items_len h]; omega
    have hel := out_els [⟨0, 4, [encRing r], 0⟩] 1 rfl ((items r).take i) ver
    have hap := out_app [⟨0, 4, [encRing r], 0⟩] 1 rfl ((items r).take i) ver (item r i) (by omega)
    have h0 : ([(⟨0, 4, [encRing r], 0⟩ : Ob)] ++ outH ((items r).take i) ver)[0]? = some ⟨0, 4, [encRing r], 0⟩ := rfl
    rw [show ((items r).take i ++ [item r i]) = (items r).take (i + 1) by rw [List.take_add_one, items_get r (by omega)]; rfl] at hap
    have ih' := fun (σ2 : Nat → D) a b c => ih (i + 1) (outV ((items r).take i) ver) σ2 (by omega) a b c hK
    generalize outV ((items r).take i) ver = ver2 at *
    generalize outD 1 ((items r).take i) ver = d1 at *
    generalize [(⟨0, 4, [encRing r], 0⟩ : Ob)] ++ outH ((items r).take i) ver = H at *
    generalize outD 1 ((items r).take (i + 1)) ver2 = d2 at *
    generalize [(⟨0, 4, [encRing r], 0⟩ : Ob)] ++ outH ((items r).take (i + 1)) ver2 = H2 at *
    rw [Wloop]
    by_cases hc : hd + i < r.l.length
    · rw [if_pos hc] at hq
      have c1 : decide ((r.l.length : Int) ≤ r.head + i) = false := decide_eq_false (by omega)
      have hqi : r.head + (i : Int) = q := by omega
      rw [hqi] at hw1 c1
      have c2 : decide (r.l.length ≤ q) = false := decide_eq_false (by omega)
      conv => arg 1; arg 1; arg 1; simp [loopAt, loopIn, headId, Tryz.f23, s1, s3, s4, h0, e, rmay_ok h, hqi, hw1, c1, c2, hix, hg, hbl, hel, hap, hwi, -getElem?_pos, -List.map_take]
      rw [Option.bind_some, loopK_normal]
      exact ih' _ (by simp [s1]) (by simp) (by simp)
    · rw [if_neg hc] at hq
      obtain ⟨p, hp⟩ : ∃ p : Nat, r.head + (i : Int) = p := ⟨hd + i, by omega⟩
      have c1 : decide ((r.l.length : Int) ≤ p) = true := decide_eq_true (by omega)
      have c2 : decide (r.l.length ≤ p) = true := decide_eq_true (by omega)
      rw [hp] at hw1
      have hw2 : IntKind.i64.wrap ((p : Int) - r.l.length) = q := by rw [IntWalk.i64_in _ (by omega)]; omega
      conv => arg 1; arg 1; arg 1; simp [loopAt, loopIn, headId, Tryz.f23, s1, s3, s4, h0, e, rmay_ok h, hp, hw1, hw2, c1, c2, hix, hg, hbl, hel, hap, hwi, -getElem?_pos, -List.map_take]
      rw [Option.bind_some, loopK_normal]
      exact ih' _ (by simp [s1]) (by simp) (by simp)
theorem ritems_ok {r : Ring} (h : Ok r) : fnc Tryz.prog cfg R 23 [encRing r] = some (encL 2 encRf (some (items r))) := by
  rw [fnc_at rfl, body_eq Tryz.func23 rfl rfl]
  simp [argsσ, Option.bind_assoc]
  refine ritems_loop r h _ (fun o => o = some _) r.many.toNat 0 0 _ (by omega) (by simp) (by simp [outD_nil]) (by simp) ?_
  intro σ' ver' s3
  have hE := out_exp [⟨0, 4, [encRing r], 0⟩] 1 rfl (items r) ver'
  generalize [(⟨0, 4, [encRing r], 0⟩ : Ob)] ++ outH (items r) ver' = H at *
  simp [s3, Vm.results, hE]
theorem ritems_no {r : Ring} (h : ¬ Ok r) : fnc Tryz.prog cfg R 23 [encRing r] = some (encL 2 encRf (some [])) := by
  rw [fnc_at rfl, body_eq Tryz.func23 rfl rfl]
  rw [show encL 2 encRf (some []) = .sl 2 [] false from rfl]
  cases c : decide ((0 : Int) < r.many) <;>
  simp [argsσ, Wloop, c, rmay_no h, Vm.results]
theorem items_nil {r : Ring} (h : Ok r) (h0 : r.many = 0) : items r = [] := List.eq_nil_of_length_eq_zero (by rw [items_len h, h0]; rfl)
theorem ritems_empty {r : Ring} (h : ¬ Ok r ∨ r.many = 0) : fnc Tryz.prog cfg R 23 [encRing r] = some (encL 2 encRf (some [])) := by
  by_cases ho : Ok r
  · rw [ritems_ok ho, items_nil ho (h.resolve_left (fun n => n ho))]
  · exact ritems_no ho
end Go.Proofs.YtifmjomfoilnnaaGreatW.Rn
