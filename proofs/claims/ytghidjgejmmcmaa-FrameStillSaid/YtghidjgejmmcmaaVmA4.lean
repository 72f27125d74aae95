/- The document's check: fields, what an instruction takes and lays, what follows. No conditions. -/
import Derived.Test.YtghidjgejmmcmaaVmA3
import Derived.Test.YtghidjgejmmcmaaVmC2
set_option linter.unusedVariables false
set_option linter.unusedSimpArgs false
namespace Go.Proofs.YtghidjgejmmcmaaW.Rg
open Go.Proofs.YtghidjgejmmcmaaW.Vm Go.Proofs.YtghidjgejmmcmaaW.Md
open Go Go.Proofs
/-- code whose instructions' fields tell what there is -/
structure Safe (p : List Fu) (c : List Instr) : Prop where
  ar : ∀ f ∈ p, 0 ≤ f.arity ∧ f.arity ≤ 16
  im : ∀ x ∈ c, imay x = true
  sp : ∀ x ∈ c, x.op = 13 → x.a < p.length
  len : c.length ≤ 200
theorem mostA_le (n : Int) : mostA n ≤ 255 := by unfold mostA; (repeat' split) <;> omega
theorem leastA_le (n : Int) : 0 ≤ leastA n := by unfold leastA; split <;> omega
theorem Safe.a {p : List Fu} {c : List Instr} (h : Safe p c) {x : Instr} (hx : x ∈ c) : 0 ≤ x.op ∧ x.op < 17 ∧ 0 ≤ x.a ∧ x.a ≤ 255 := by
  obtain ⟨h1, h2, h3, h4, _⟩ := imay_iff.1 (h.im x hx)
  have := mostA_le x.op; have := leastA_le x.op
  omega
theorem Safe.off {p : List Fu} {c : List Instr} (h : Safe p c) {x : Instr} (hx : x ∈ c) : 0 ≤ offP p x ∧ offP p x ≤ 16 := by
  unfold offP
  split
  · rename_i h13
    have h2 := h.sp x hx h13
    have h3 := (h.a hx).2.2.1
    have hg : p[x.a.toNat]? = some p[x.a.toNat] := List.getElem?_eq_getElem (by omega)
    rw [hg]
    exact h.ar _ (List.mem_of_getElem? hg)
  · have := off6_le x.op; omega
theorem roff_spec (p : Option (List Fu)) (c : List Instr) (hs : Safe (p.getD []) c) (x : Instr) (hx : x ∈ c) : fnc Try.prog cfg R 78 [encProg p, encInstr x] = some (I (offP (p.getD []) x)) := by
  rw [fnc_at rfl, body_eq Try.func78 rfl rfl]
  have ho := off_spec x.op
  cases c1 : decide (x.op = 13)
  · have e : offP (p.getD []) x = off6 x.op := by unfold offP; rw [if_neg (of_decide_eq_false c1)]
    rw [e]
    simp [argsσ, Vm.results, c1, ho]
  · have h13 := of_decide_eq_true c1
    have h2 := hs.sp x hx h13
    have h3 := (hs.a hx).2.2.1
    obtain ⟨n, hn⟩ : ∃ n : Nat, x.a = n := ⟨x.a.toNat, by omega⟩
    have hlt : n < (p.getD []).length := by omega
    have hix := idxD_nat .i64 hlt
    have hg : (p.getD [])[n]? = some (p.getD [])[n] := List.getElem?_eq_getElem hlt
    have e : offP (p.getD []) x = ((p.getD [])[n]).arity := by unfold offP; rw [if_pos h13, hn]; simp [hg]
    rw [e]
    generalize (p.getD [])[n] = f at hg
    simp [argsσ, Vm.results, c1, hn, hix, hg]
/-- what follows, as the code tells it -/
def nextO (x : Instr) (at_ : Nat) : Option (List Int) := if x.op = 10 then some [x.a] else if x.op = 15 ∨ x.op = 16 then none else if x.op = 11 then some [(at_ : Int) + 1, x.a] else some [(at_ : Int) + 1]
theorem nextO_P (x : Instr) (at_ : Nat) (h : 0 ≤ x.a) : (nextO x at_).getD [] = (nextP x at_).map fun (t : Nat) => (t : Int) := by
  unfold nextO nextP
  have : (x.a.toNat : Int) = x.a := by omega
  (repeat' split) <;> simp_all
theorem rnext_spec (x : Instr) (at_ : Nat) (h : at_ < 2 ^ 62) : fnc Try.prog cfg R 55 [encInstr x, I at_] = some (encL 1 I (nextO x at_)) := by
  rw [fnc_at rfl, body_eq Try.func55 rfl rfl]
  have hw : IntKind.i64.wrap ((at_ : Int) + 1) = (at_ : Int) + 1 := wr (by omega) (by omega)
  unfold nextO
  cases c1 : decide (x.op = 10)
  case true => have := of_decide_eq_true c1; simp [argsσ, Vm.results, c1, this, encL]
  cases c2 : decide (x.op = 15)
  case true => have := of_decide_eq_true c2; simp [argsσ, Vm.results, c1, c2, this, encL]
  cases c3 : decide (x.op = 16)
  case true => have := of_decide_eq_true c3; simp [argsσ, Vm.results, c1, c2, c3, this, encL]
  cases c4 : decide (x.op = 11)
  case true => have := of_decide_eq_true c4; simp [argsσ, Vm.results, c1, c2, c3, c4, this, encL, hw]
  have := of_decide_eq_false c1; have := of_decide_eq_false c2; have := of_decide_eq_false c3; have := of_decide_eq_false c4
  simp [argsσ, Vm.results, c1, c2, c3, c4, encL, hw, *]
theorem rfield_spec (p : Option (List Fu)) (f : Fu) (x : Instr) : fnc Try.prog cfg R 74 [encProg p, encFunc f, encInstr x] = some (I (fieldE (p.getD []).length f x)) := by
  rw [fnc_at rfl, body_eq Try.func74 rfl rfl]
  unfold fieldE
  have hcl : (f.code.getD []).length = f.c.length := rfl
  cases c1 : decide (x.op = 1)
  case true =>
    have h := of_decide_eq_true c1
    cases c2 : decide (f.locals ≤ x.a) <;> (first | have := of_decide_eq_true c2 | have := of_decide_eq_false c2) <;> simp [argsσ, Vm.results, c2, h, *]
  cases c1' : decide (x.op = 2)
  case true =>
    have h := of_decide_eq_true c1'
    cases c2 : decide (f.locals ≤ x.a) <;> (first | have := of_decide_eq_true c2 | have := of_decide_eq_false c2) <;> simp [argsσ, Vm.results, c2, h, *]
  have n1 := of_decide_eq_false c1; have n2 := of_decide_eq_false c1'
  cases c3 : decide (x.op = 14)
  case true =>
    have h := of_decide_eq_true c3
    cases c2 : decide (f.slots ≤ x.a) <;> (first | have := of_decide_eq_true c2 | have := of_decide_eq_false c2) <;> simp [argsσ, Vm.results, c2, h, *]
  have n3 := of_decide_eq_false c3
  cases c4 : decide (x.op = 13)
  case true =>
    have h := of_decide_eq_true c4
    cases c2 : decide (f.slots ≤ x.b)
    · have m1 := of_decide_eq_false c2
      cases c5 : decide (((p.getD []).length : Int) ≤ x.a) <;> (first | have := of_decide_eq_true c5 | have := of_decide_eq_false c5) <;> simp [argsσ, Vm.results, c2, c5, h, *]
    · have m1 := of_decide_eq_true c2
      simp [argsσ, Vm.results, c2, h, *]
  have n4 := of_decide_eq_false c4
  cases c5 : decide (x.op = 10)
  case true =>
    have h := of_decide_eq_true c5
    cases c2 : decide ((f.c.length : Int) ≤ x.a) <;> (first | have := of_decide_eq_true c2 | have := of_decide_eq_false c2) <;> simp [argsσ, Vm.results, c2, h, *]
  have n5 := of_decide_eq_false c5
  cases c6 : decide (x.op = 11)
  case true =>
    have h := of_decide_eq_true c6
    cases c2 : decide ((f.c.length : Int) ≤ x.a) <;> (first | have := of_decide_eq_true c2 | have := of_decide_eq_false c2) <;> simp [argsσ, Vm.results, c2, h, *]
  have n6 := of_decide_eq_false c6
  simp [argsσ, Vm.results, *]
theorem rbehind_spec (p : Option (List Fu)) (c : List Instr) (hs : Safe (p.getD []) c) (x : Instr) (hx : x ∈ c) (d : Int) (hd : 0 ≤ d ∧ d ≤ 16) :
    fnc Try.prog cfg R 54 [encProg p, encInstr x, I d] = some (I (if d < offP (p.getD []) x ∨ 16 < d - offP (p.getD []) x + on6 x.op then -1 else d - offP (p.getD []) x + on6 x.op)) := by
  rw [fnc_at rfl, body_eq Try.func54 rfl rfl]
  have ho := roff_spec p c hs x hx
  have hn := on_spec x.op
  have := hs.off hx
  have := on6_le x.op
  generalize offP (p.getD []) x = o at *
  generalize on6 x.op = n at *
  have w1 : IntKind.i64.wrap (d - o) = d - o := wr (by omega) (by omega)
  have w2 : IntKind.i64.wrap (d - o + n) = d - o + n := wr (by omega) (by omega)
  cases c1 : decide (d < o)
  · have h1 := of_decide_eq_false c1
    cases c2 : decide (16 < d - o + n) <;> (first | have h2 := of_decide_eq_true c2 | have h2 := of_decide_eq_false c2) <;> simp [argsσ, Vm.results, ho, hn, c1, c2, w1, w2, h1, h2]
  · have h1 := of_decide_eq_true c1
    simp [argsσ, Vm.results, ho, hn, c1, h1]
theorem open_loop (ds : List Int) (dn : List Bool) (hl : ds.length = dn.length) (h64 : ds.length < 2 ^ 62) (hr : ∀ i, ds.getD i (-1) = -1 ∨ 0 ≤ ds.getD i (-1)) {X : Type} (K : Ex × St → Option X) (x : X) : ∀ (m i : Nat) (σ : Nat → D), i + m = ds.length →
    σ 0 = encL 1 I (some ds) → σ 1 = encL 1 D.bool (some dn) → σ 5 = I i →
    (∀ σ' (j : Nat), leastF ds dn m i = some j → σ' 4 = I j → K (.ret, ⟨σ', [], 25⟩) = some x) → (∀ σ', leastF ds dn m i = none → K (.exit 0, ⟨σ', [], 25⟩) = some x) →
    (W Try.prog cfg (.loop (loopAt Try.f53 2)) ⟨σ, [], 25⟩).bind K = some x
  | 0, i, σ, hm, s0, s1, s5, hr1, he => by
    have hi : ¬ (i < ds.length) := by omega
    rw [Wloop]
    conv => lhs; arg 1; arg 1; simp [loopAt, loopIn, headId, Try.f53, s0, s5, hi]
    exact he _ rfl
  | m + 1, i, σ, hm, s0, s1, s5, hr1, he => by
    have hi : i < ds.length := by omega
    have hi2 : i < dn.length := by omega
    have hlt : decide (i < ds.length) = true := dt hi
    have hx := idxD_nat .i64 hi
    have hx2 := idxD_nat .i64 hi2
    have hw : IntKind.i64.wrap ((i : Int) + 1) = ((i + 1 : Nat) : Int) := wr (by omega) (by omega)
    have g1 : ds[i]? = some ds[i] := List.getElem?_eq_getElem hi
    have g2 : dn[i]? = some dn[i] := List.getElem?_eq_getElem hi2
    have e1 : ds.getD i (-1) = ds[i] := by simp [List.getD_eq_getElem?_getD, g1]
    have e2 : dn.getD i true = dn[i] := by simp [List.getD_eq_getElem?_getD, g2]
    have h0 := hr i
    rw [e1] at h0
    unfold leastF at hr1 he
    rw [e1, e2] at hr1 he
    generalize ds[i] = d at *
    generalize dn[i] = b at *
    cases c1 : decide (0 ≤ d)
    · have hd : d = -1 := by have := of_decide_eq_false c1; omega
      rw [if_neg (by simp [hd])] at hr1 he
      rw [Wloop]
      conv => lhs; arg 1; arg 1; simp [loopAt, loopIn, headId, Try.f53, s0, s1, s5, hlt, hx, hx2, g1, g2, c1, hw]
      rw [Option.bind_some, loopK_normal]
      exact open_loop ds dn hl h64 hr K x m (i + 1) _ (by omega) (by simp [s0]) (by simp [s1]) (by simp) hr1 he
    · have hd : d ≠ -1 := by have := of_decide_eq_true c1; omega
      cases b with
      | true =>
        rw [if_neg (by simp)] at hr1 he
        rw [Wloop]
        conv => lhs; arg 1; arg 1; simp [loopAt, loopIn, headId, Try.f53, s0, s1, s5, hlt, hx, hx2, g1, g2, c1, hw]
        rw [Option.bind_some, loopK_normal]
        exact open_loop ds dn hl h64 hr K x m (i + 1) _ (by omega) (by simp [s0]) (by simp [s1]) (by simp) hr1 he
      | false =>
        rw [if_pos ⟨hd, rfl⟩] at hr1 he
        rw [Wloop]
        conv => lhs; arg 1; arg 1; simp [loopAt, loopIn, headId, Try.f53, s0, s1, s5, hlt, hx, hx2, g1, g2, c1, hw]
        exact hr1 _ i rfl (by simp)
def leastI (ds : List Int) (dn : List Bool) : Int := match least ds dn with | some j => j | none => -1
theorem open_spec (ds : List Int) (dn : List Bool) (hl : ds.length = dn.length) (h64 : ds.length < 2 ^ 62) (hr : ∀ i, ds.getD i (-1) = -1 ∨ 0 ≤ ds.getD i (-1)) :
    fnc Try.prog cfg R 53 [.sl 1 (ds.map I) false, .sl 1 (dn.map D.bool) false] = some (I (leastI ds dn)) := by
  rw [fnc_at rfl, body_eq Try.func53 rfl rfl]
  simp [argsσ, Option.bind_assoc]
  refine open_loop ds dn hl h64 hr _ _ ds.length 0 _ (by simp) (by simp [argsσ, encL]) (by simp [argsσ, encL]) (by simp) ?_ ?_
  · intro σ' j h1 h2; simp [h2, Vm.results, leastI, least, h1]
  · intro σ' h1; simp [Vm.results, leastI, least, h1]
end Go.Proofs.YtghidjgejmmcmaaW.Rg
