/- What is reached: the document; small programs. No conditions. -/
import Derived.Test.YtlpadffinfijgaaVmEA
import Derived.Test.YtlpadffinfijgaaVmMM
set_option linter.unusedVariables false
set_option linter.unusedSimpArgs false
set_option maxRecDepth 10000
namespace Go.Proofs.YtlpadffinfijgaaW.Rg
open Go.Proofs.YtlpadffinfijgaaW.Vm Go.Proofs.YtlpadffinfijgaaW.Md
open Go Go.Proofs
structure Bnd (p : List Fu) : Prop where
  len : p.length < 2 ^ 63
  code : ∀ f ∈ p, f.c.length < 2 ^ 63
theorem rhead_spec (f : Fu) : fnc Try.prog cfg R 69 [encFunc f] = some (.bool (headOk f)) := by
  rw [fnc_at rfl, body_eq Try.func69 rfl rfl]
  unfold headOk
  cases h1 : decide (0 ≤ f.arity)
  · simp [argsσ, Vm.results, h1]
  cases h2 : decide (f.arity ≤ 16)
  · simp [argsσ, Vm.results, h1, h2]
  cases h3 : decide (0 ≤ f.locals)
  · simp [argsσ, Vm.results, h1, h2, h3]
  cases h4 : decide (f.locals ≤ 16)
  · simp [argsσ, Vm.results, h1, h2, h3, h4]
  cases h5 : decide (0 ≤ f.slots)
  · simp [argsσ, Vm.results, h1, h2, h3, h4, h5]
  simp [argsσ, Vm.results, h1, h2, h3, h4, h5]
theorem rmay_in (p : Option (List Fu)) (i : Nat) (f : Fu) (hp : (p.getD [])[i]? = some f) (hi : i < (p.getD []).length) (hb : f.c.length < 2 ^ 63) {X : Type} (K : Ex × St → Option X) (x : X) : ∀ (rest : List Instr) (k : Nat) (σ : Nat → D), f.c.drop k = rest →
    σ 0 = encProg p → σ 3 = I i → σ 4 = I k →
    (∀ σ', rest.all imay = false → σ' 2 = .bool false → K (.ret, ⟨σ', [], 63⟩) = some x) → (∀ σ', rest.all imay = true → σ' 0 = encProg p → σ' 3 = I i → K (.exit 2, ⟨σ', [], 63⟩) = some x) →
    (W Try.prog cfg (.loop (loopAt Try.f41 5)) ⟨σ, [], 63⟩).bind K = some x
  | [], k, σ, hd, s0, s3, s4, hr, he => by
    have hk : ¬ (k < (f.code.getD []).length) := by have := congrArg List.length hd; simp at this; exact Nat.not_lt.2 (Nat.le_of_sub_eq_zero this)
    have hx := idxD_nat .i64 hi
    rw [Wloop]
    conv => lhs; arg 1; arg 1; simp [loopAt, loopIn, headId, Try.f41, s0, s3, s4, hx, hp, hk]
    exact he _ rfl (by simp [s0]) (by simp [s3])
  | y :: rest, k, σ, hd, s0, s3, s4, hr, he => by
    obtain ⟨hg1, hd1, hk⟩ := drop_get hd
    have hg2 : (f.code.getD [])[k]? = some y := hg1
    have hk' : k < (f.code.getD []).length := hk
    have hlt : decide (k < (f.code.getD []).length) = true := dt hk
    have hx := idxD_nat .i64 hi
    have hx2 := idxD_nat .i64 hk'
    have hw : IntKind.i64.wrap ((k : Int) + 1) = ((k + 1 : Nat) : Int) := wr (by omega) (by omega)
    have hm := rmay6_spec y
    cases h1 : imay y with
    | false =>
      rw [h1] at hm
      rw [Wloop]
      conv => lhs; arg 1; arg 1; simp [loopAt, loopIn, headId, Try.f41, s0, s3, s4, hx, hx2, hp, hlt, hg2, hm]
      exact hr _ (by simp [h1]) (by simp)
    | true =>
      rw [h1] at hm
      rw [Wloop]
      conv => lhs; arg 1; arg 1; simp [loopAt, loopIn, headId, Try.f41, s0, s3, s4, hx, hx2, hp, hlt, hg2, hm, hw]
      rw [Option.bind_some, loopK_normal]
      refine rmay_in p i f hp hi hb K x rest (k + 1) _ hd1 (by simp [s0]) (by simp [s3]) (by simp) ?_ ?_
      · intro σ' h2 h3; exact hr σ' (by simp [h2]) h3
      · intro σ' h2 h3 h4; exact he σ' (by simp [h1, h2]) h3 h4
theorem rmay_out (p : Option (List Fu)) (hb : Bnd (p.getD [])) {X : Type} (K : Ex × St → Option X) (x : X) : ∀ (rest : List Fu) (i : Nat) (σ : Nat → D), (p.getD []).drop i = rest →
    σ 0 = encProg p → σ 3 = I i →
    (∀ σ', rest.all fmay = false → σ' 2 = .bool false → K (.ret, ⟨σ', [], 63⟩) = some x) → (∀ σ', rest.all fmay = true → σ' 0 = encProg p → K (.exit 0, ⟨σ', [], 63⟩) = some x) →
    (W Try.prog cfg (.loop (loopAt Try.f41 2)) ⟨σ, [], 63⟩).bind K = some x
  | [], i, σ, hd, s0, s3, hr, he => by
    have hi : ¬ (i < (p.getD []).length) := by have := congrArg List.length hd; simp at this; omega
    rw [Wloop]
    conv => lhs; arg 1; arg 1; simp [loopAt, loopIn, headId, Try.f41, s0, s3, hi]
    exact he _ rfl (by simp [s0])
  | f :: rest, i, σ, hd, s0, s3, hr, he => by
    obtain ⟨hg1, hd1, hi⟩ := drop_get hd
    have hlt : decide (i < (p.getD []).length) = true := dt hi
    have hx := idxD_nat .i64 hi
    have hw : IntKind.i64.wrap ((i : Int) + 1) = ((i + 1 : Nat) : Int) := wr (by omega) (by have := hb.len; omega)
    have hh := rhead_spec f
    have hcb := hb.code f (List.mem_of_getElem? hg1)
    have hcl : (f.code.getD []).length = f.c.length := rfl
    rw [Wloop]
    conv => lhs; arg 1; arg 1; simp [loopAt, loopIn, headId, Try.f41, s0, s3, hlt]
    simp only [Option.bind_assoc]
    refine rmay_in p i f hg1 hi hcb _ x f.c 0 _ (by simp) (by simp [s0]) (by simp [s3]) (by simp) ?_ ?_
    · intro σ' h1 h2
      have hf : fmay f = false := by unfold fmay; rw [h1]; simp
      simp
      exact hr _ (by simp [hf]) h2
    · intro σ' h1 h2 h3
      cases c1 : headOk f with
      | false =>
        rw [c1] at hh
        have hf : fmay f = false := by unfold fmay; rw [c1]; simp
        simp [h2, h3, hx, hg1, hh]
        exact hr _ (by simp [hf]) (by simp)
      | true =>
        rw [c1] at hh
        cases c2 : decide (f.c.length < 1) with
        | true =>
          have c2' : f.code.getD [] = [] := List.eq_nil_of_length_eq_zero (by have := of_decide_eq_true c2; omega)
          have hf : fmay f = false := by unfold fmay; rw [c1, h1]; have := of_decide_eq_true c2; simp; omega
          have d2 : decide ((f.c.length : Int) < 1) = true := dt (by have := of_decide_eq_true c2; omega)
          simp [h2, h3, hx, hg1, hh, hcl, d2]
          exact hr _ (by simp [hf]) (by simp)
        | false =>
          have d2 : decide ((f.c.length : Int) < 1) = false := df (by have := of_decide_eq_false c2; omega)
          cases c3 : decide (200 < f.c.length) with
          | true =>
            have d3 : decide ((200 : Int) < f.c.length) = true := dt (by have := of_decide_eq_true c3; omega)
            have hf : fmay f = false := by unfold fmay; rw [c1, h1]; have := of_decide_eq_true c3; simp; omega
            simp [h2, h3, hx, hg1, hh, hcl, d2, d3]
            exact hr _ (by simp [hf]) (by simp)
          | false =>
            have d3 : decide ((200 : Int) < f.c.length) = false := df (by have := of_decide_eq_false c3; omega)
            have hf : fmay f = true := by unfold fmay; rw [c1, h1]; have := of_decide_eq_false c3; have := of_decide_eq_false c2; simp; omega
            simp [h2, h3, hx, hg1, hh, hcl, d2, d3, hw]
            refine rmay_out p hb K x rest (i + 1) _ hd1 (by simp [h2]) (by simp) ?_ ?_
            · intro σ' ha h2; exact hr σ' (by simp [ha]) h2
            · intro σ' ha h2; exact he σ' (by simp [ha, hf]) h2
theorem rmay7_spec (p : Option (List Fu)) (hb : Bnd (p.getD [])) : fnc Try.prog cfg R 41 [encProg p] = some (.bool (mayP (p.getD []))) := by
  rw [fnc_at rfl, body_eq Try.func41 rfl rfl]
  simp [argsσ, Option.bind_assoc]
  refine rmay_out p hb _ _ (p.getD []) 0 _ (by simp) (by simp [argsσ]) (by simp) ?_ ?_
  · intro σ' ha h2; simp [h2, Vm.results, mayP, ha]
  · intro σ' ha h2
    cases c1 : decide ((1 : Int) ≤ (p.getD []).length) with
    | false =>
      have := of_decide_eq_false c1
      simp [h2, Vm.results, mayP, ha, c1]
      omega
    | true =>
      have := of_decide_eq_true c1
      simp [h2, Vm.results, mayP, ha, c1]
      first | omega | (rw [Bool.eq_iff_iff]; simp only [Bool.and_eq_true, decide_eq_true_eq]; omega)
end Go.Proofs.YtlpadffinfijgaaW.Rg
set_option linter.unusedVariables false
set_option linter.unusedSimpArgs false
namespace Go.Proofs.YtlpadffinfijgaaW.Rg
open Go.Proofs.YtlpadffinfijgaaW.Vm Go.Proofs.YtlpadffinfijgaaW.Md
open Go Go.Proofs
/-- code whose instructions' fields tell what there is -/
structure Safe (p : List Fu) (c : List Instr) : Prop where
  ar : ∀ f ∈ p, 0 ≤ f.arity ∧ f.arity ≤ 16
  im : ∀ x ∈ c, imay x = true
  sp : ∀ x ∈ c, x.op = 13 → x.a < p.length
  len : c.length ≤ 200
theorem mostA_le (n : Int) : mostA n ≤ 255 := by unfold mostA; (repeat' split) <;> omega
theorem leastA_le (n : Int) : 0 ≤ leastA n := by unfold leastA; split <;> omega
theorem Safe.a {p : List Fu} {c : List Instr} (h : Safe p c) {x : Instr} (hx : x ∈ c) : 0 ≤ x.op ∧ x.op < 17 ∧ 0 ≤ x.a ∧ x.a ≤ 255 := by
  obtain ⟨h1, h2, h3, h4, _⟩ := imay_iff.1 (h.im x hx)
  have := mostA_le x.op; have := leastA_le x.op
  omega
theorem Safe.off {p : List Fu} {c : List Instr} (h : Safe p c) {x : Instr} (hx : x ∈ c) : 0 ≤ offP p x ∧ offP p x ≤ 16 := by
  unfold offP
  split
  · rename_i h13
    have h2 := h.sp x hx h13
    have h3 := (h.a hx).2.2.1
    have hg : p[x.a.toNat]? = some p[x.a.toNat] := List.getElem?_eq_getElem (by omega)
    rw [hg]
    exact h.ar _ (List.mem_of_getElem? hg)
  · have := off6_le x.op; omega
theorem roff_spec (p : Option (List Fu)) (c : List Instr) (hs : Safe (p.getD []) c) (x : Instr) (hx : x ∈ c) : fnc Try.prog cfg R 108 [encProg p, encInstr x] = some (I (offP (p.getD []) x)) := by
  rw [fnc_at rfl, body_eq Try.func108 rfl rfl]
  have ho := off_spec x.op
  cases c1 : decide (x.op = 13)
  · have e : offP (p.getD []) x = off6 x.op := by unfold offP; rw [if_neg (of_decide_eq_false c1)]
    rw [e]
    simp [argsσ, Vm.results, c1, ho]
  · have h13 := of_decide_eq_true c1
    have h2 := hs.sp x hx h13
    have h3 := (hs.a hx).2.2.1
    obtain ⟨n, hn⟩ : ∃ n : Nat, x.a = n := ⟨x.a.toNat, by omega⟩
    have hlt : n < (p.getD []).length := by omega
    have hix := idxD_nat .i64 hlt
    have hg : (p.getD [])[n]? = some (p.getD [])[n] := List.getElem?_eq_getElem hlt
    have e : offP (p.getD []) x = ((p.getD [])[n]).arity := by unfold offP; rw [if_pos h13, hn]; simp [hg]
    rw [e]
    generalize (p.getD [])[n] = f at hg
    simp [argsσ, Vm.results, c1, hn, hix, hg]
/-- what follows, as the code tells it -/
def nextO (x : Instr) (at_ : Nat) : Option (List Int) := if x.op = 10 then some [x.a] else if x.op = 15 ∨ x.op = 16 then none else if x.op = 11 then some [(at_ : Int) + 1, x.a] else some [(at_ : Int) + 1]
theorem nextO_P (x : Instr) (at_ : Nat) (h : 0 ≤ x.a) : (nextO x at_).getD [] = (nextP x at_).map fun (t : Nat) => (t : Int) := by
  unfold nextO nextP
  have : (x.a.toNat : Int) = x.a := by omega
  (repeat' split) <;> simp_all
theorem rnext_spec (x : Instr) (at_ : Nat) (h : at_ < 2 ^ 62) : fnc Try.prog cfg R 99 [encInstr x, I at_] = some (encL 1 I (nextO x at_)) := by
  rw [fnc_at rfl, body_eq Try.func99 rfl rfl]
  have hw : IntKind.i64.wrap ((at_ : Int) + 1) = (at_ : Int) + 1 := wr (by omega) (by omega)
  unfold nextO
  cases c1 : decide (x.op = 10)
  case true => have := of_decide_eq_true c1; simp [argsσ, Vm.results, c1, this, encL]
  cases c2 : decide (x.op = 15)
  case true => have := of_decide_eq_true c2; simp [argsσ, Vm.results, c1, c2, this, encL]
  cases c3 : decide (x.op = 16)
  case true => have := of_decide_eq_true c3; simp [argsσ, Vm.results, c1, c2, c3, this, encL]
  cases c4 : decide (x.op = 11)
  case true => have := of_decide_eq_true c4; simp [argsσ, Vm.results, c1, c2, c3, c4, this, encL, hw]
  have := of_decide_eq_false c1; have := of_decide_eq_false c2; have := of_decide_eq_false c3; have := of_decide_eq_false c4
  simp [argsσ, Vm.results, c1, c2, c3, c4, encL, hw, *]
theorem rfield_spec (p : Option (List Fu)) (f : Fu) (x : Instr) : fnc Try.prog cfg R 70 [encProg p, encFunc f, encInstr x] = some (I (fieldE (p.getD []).length f x)) := by
  rw [fnc_at rfl, body_eq Try.func70 rfl rfl]
  unfold fieldE
  have hcl : (f.code.getD []).length = f.c.length := rfl
  cases c1 : decide (x.op = 1)
  case true =>
    have h := of_decide_eq_true c1
    cases c2 : decide (f.locals ≤ x.a) <;> (first | have := of_decide_eq_true c2 | have := of_decide_eq_false c2) <;> simp [argsσ, Vm.results, c2, h, *]
  cases c1' : decide (x.op = 2)
  case true =>
    have h := of_decide_eq_true c1'
    cases c2 : decide (f.locals ≤ x.a) <;> (first | have := of_decide_eq_true c2 | have := of_decide_eq_false c2) <;> simp [argsσ, Vm.results, c2, h, *]
  have n1 := of_decide_eq_false c1; have n2 := of_decide_eq_false c1'
  cases c3 : decide (x.op = 14)
  case true =>
    have h := of_decide_eq_true c3
    cases c2 : decide (f.slots ≤ x.a) <;> (first | have := of_decide_eq_true c2 | have := of_decide_eq_false c2) <;> simp [argsσ, Vm.results, c2, h, *]
  have n3 := of_decide_eq_false c3
  cases c4 : decide (x.op = 13)
  case true =>
    have h := of_decide_eq_true c4
    cases c2 : decide (f.slots ≤ x.b)
    · have m1 := of_decide_eq_false c2
      cases c5 : decide (((p.getD []).length : Int) ≤ x.a) <;> (first | have := of_decide_eq_true c5 | have := of_decide_eq_false c5) <;> simp [argsσ, Vm.results, c2, c5, h, *]
    · have m1 := of_decide_eq_true c2
      simp [argsσ, Vm.results, c2, h, *]
  have n4 := of_decide_eq_false c4
  cases c5 : decide (x.op = 10)
  case true =>
    have h := of_decide_eq_true c5
    cases c2 : decide ((f.c.length : Int) ≤ x.a) <;> (first | have := of_decide_eq_true c2 | have := of_decide_eq_false c2) <;> simp [argsσ, Vm.results, c2, h, *]
  have n5 := of_decide_eq_false c5
  cases c6 : decide (x.op = 11)
  case true =>
    have h := of_decide_eq_true c6
    cases c2 : decide ((f.c.length : Int) ≤ x.a) <;> (first | have := of_decide_eq_true c2 | have := of_decide_eq_false c2) <;> simp [argsσ, Vm.results, c2, h, *]
  have n6 := of_decide_eq_false c6
  simp [argsσ, Vm.results, *]
theorem rbehind_spec (p : Option (List Fu)) (c : List Instr) (hs : Safe (p.getD []) c) (x : Instr) (hx : x ∈ c) (d : Int) (hd : 0 ≤ d ∧ d ≤ 16) :
    fnc Try.prog cfg R 98 [encProg p, encInstr x, I d] = some (I (if d < offP (p.getD []) x ∨ 16 < d - offP (p.getD []) x + on6 x.op then -1 else d - offP (p.getD []) x + on6 x.op)) := by
  rw [fnc_at rfl, body_eq Try.func98 rfl rfl]
  have ho := roff_spec p c hs x hx
  have hn := on_spec x.op
  have := hs.off hx
  have := on6_le x.op
  generalize offP (p.getD []) x = o at *
  generalize on6 x.op = n at *
  have w1 : IntKind.i64.wrap (d - o) = d - o := wr (by omega) (by omega)
  have w2 : IntKind.i64.wrap (d - o + n) = d - o + n := wr (by omega) (by omega)
  cases c1 : decide (d < o)
  · have h1 := of_decide_eq_false c1
    cases c2 : decide (16 < d - o + n) <;> (first | have h2 := of_decide_eq_true c2 | have h2 := of_decide_eq_false c2) <;> simp [argsσ, Vm.results, ho, hn, c1, c2, w1, w2, h1, h2]
  · have h1 := of_decide_eq_true c1
    simp [argsσ, Vm.results, ho, hn, c1, h1]
theorem open_loop (ds : List Int) (dn : List Bool) (hl : ds.length = dn.length) (h64 : ds.length < 2 ^ 62) (hr : ∀ i, ds.getD i (-1) = -1 ∨ 0 ≤ ds.getD i (-1)) {X : Type} (K : Ex × St → Option X) (x : X) : ∀ (m i : Nat) (σ : Nat → D), i + m = ds.length →
    σ 0 = encL 1 I (some ds) → σ 1 = encL 1 D.bool (some dn) → σ 5 = I i →
    (∀ σ' (j : Nat), leastF ds dn m i = some j → σ' 4 = I j → K (.ret, ⟨σ', [], 25⟩) = some x) → (∀ σ', leastF ds dn m i = none → K (.exit 0, ⟨σ', [], 25⟩) = some x) →
    (W Try.prog cfg (.loop (loopAt Try.f97 2)) ⟨σ, [], 25⟩).bind K = some x
  | 0, i, σ, hm, s0, s1, s5, hr1, he => by
    have hi : ¬ (i < ds.length) := by omega
    rw [Wloop]
    conv => lhs; arg 1; arg 1; simp [loopAt, loopIn, headId, Try.f97, s0, s5, hi]
    exact he _ rfl
  | m + 1, i, σ, hm, s0, s1, s5, hr1, he => by
    have hi : i < ds.length := by omega
    have hi2 : i < dn.length := by omega
    have hlt : decide (i < ds.length) = true := dt hi
    have hx := idxD_nat .i64 hi
    have hx2 := idxD_nat .i64 hi2
    have hw : IntKind.i64.wrap ((i : Int) + 1) = ((i + 1 : Nat) : Int) := wr (by omega) (by omega)
    have g1 : ds[i]? = some ds[i] := List.getElem?_eq_getElem hi
    have g2 : dn[i]? = some dn[i] := List.getElem?_eq_getElem hi2
    have e1 : ds.getD i (-1) = ds[i] := by simp [List.getD_eq_getElem?_getD, g1]
    have e2 : dn.getD i true = dn[i] := by simp [List.getD_eq_getElem?_getD, g2]
    have h0 := hr i
    rw [e1] at h0
    unfold leastF at hr1 he
    rw [e1, e2] at hr1 he
    generalize ds[i] = d at *
    generalize dn[i] = b at *
    cases c1 : decide (0 ≤ d)
    · have hd : d = -1 := by have := of_decide_eq_false c1; omega
      rw [if_neg (by simp [hd])] at hr1 he
      rw [Wloop]
      conv => lhs; arg 1; arg 1; simp [loopAt, loopIn, headId, Try.f97, s0, s1, s5, hlt, hx, hx2, g1, g2, c1, hw]
      rw [Option.bind_some, loopK_normal]
      exact open_loop ds dn hl h64 hr K x m (i + 1) _ (by omega) (by simp [s0]) (by simp [s1]) (by simp) hr1 he
    · have hd : d ≠ -1 := by have := of_decide_eq_true c1; omega
      cases b with
      | true =>
        rw [if_neg (by simp)] at hr1 he
        rw [Wloop]
        conv => lhs; arg 1; arg 1; simp [loopAt, loopIn, headId, Try.f97, s0, s1, s5, hlt, hx, hx2, g1, g2, c1, hw]
        rw [Option.bind_some, loopK_normal]
        exact open_loop ds dn hl h64 hr K x m (i + 1) _ (by omega) (by simp [s0]) (by simp [s1]) (by simp) hr1 he
      | false =>
        rw [if_pos ⟨hd, rfl⟩] at hr1 he
        rw [Wloop]
        conv => lhs; arg 1; arg 1; simp [loopAt, loopIn, headId, Try.f97, s0, s1, s5, hlt, hx, hx2, g1, g2, c1, hw]
        exact hr1 _ i rfl (by simp)
def leastI (ds : List Int) (dn : List Bool) : Int := match least ds dn with | some j => j | none => -1
theorem open_spec (ds : List Int) (dn : List Bool) (hl : ds.length = dn.length) (h64 : ds.length < 2 ^ 62) (hr : ∀ i, ds.getD i (-1) = -1 ∨ 0 ≤ ds.getD i (-1)) :
    fnc Try.prog cfg R 97 [.sl 1 (ds.map I) false, .sl 1 (dn.map D.bool) false] = some (I (leastI ds dn)) := by
  rw [fnc_at rfl, body_eq Try.func97 rfl rfl]
  simp [argsσ, Option.bind_assoc]
  refine open_loop ds dn hl h64 hr _ _ ds.length 0 _ (by simp) (by simp [argsσ, encL]) (by simp [argsσ, encL]) (by simp) ?_ ?_
  · intro σ' j h1 h2; simp [h2, Vm.results, leastI, least, h1]
  · intro σ' h1; simp [Vm.results, leastI, least, h1]
end Go.Proofs.YtlpadffinfijgaaW.Rg
set_option linter.unusedVariables false
set_option linter.unusedSimpArgs false
namespace Go.Proofs.YtlpadffinfijgaaW.Rg
open Go.Proofs.YtlpadffinfijgaaW.Vm Go.Proofs.YtlpadffinfijgaaW.Md
open Go Go.Proofs
/-- the objects of the walk -/
@[reducible] def rH (f : Fu) (ds : List Int) (dn : List Bool) : List Ob := [⟨0, 4, [encFunc f], 0⟩, ⟨0, 1, ds.map I, 0⟩, ⟨0, 1, dn.map D.bool, 0⟩]
theorem rinit_loop (f : Fu) (n : Nat) (hn : n < 2 ^ 62) (dn : List Bool) (p : D) {X : Type} (K : Ex × St → Option X) (Q : Option X → Prop) : ∀ (m i : Nat) (ds : List Int) (σ : Nat → D), i + m = n → 1 ≤ i → ds.length = n → (∀ j, j < n → ds.getD j 0 = if j = 0 then 0 else if j < i then -1 else 0) →
    σ 0 = p → σ 3 = .ptr 0 0 0 0 → σ 7 = .own 1 1 0 0 n → σ 8 = .own 1 2 0 0 n → σ 9 = I i →
    (∀ σ', σ' 0 = p → σ' 3 = .ptr 0 0 0 0 → σ' 7 = .own 1 1 0 0 n → σ' 8 = .own 1 2 0 0 n → Q (K (.exit 0, ⟨σ', rH f ((List.replicate n (-1 : Int)).set 0 0) dn, 106⟩))) →
    Q ((W Try.prog cfg (.loop (loopAt Try.f71 4)) ⟨σ, rH f ds dn, 106⟩).bind K)
  | 0, i, ds, σ, hm, h1, hl, hd, s0, s3, s7, s8, s9, hK => by
    have hi : ¬ (i < n) := by omega
    have e : ds = (List.replicate n (-1 : Int)).set 0 0 := by
      apply List.ext_getElem?
      intro j
      by_cases hj : j < n
      · have h2 := hd j hj
        have g : ds[j]? = some ds[j] := List.getElem?_eq_getElem (by omega)
        rw [List.getD_eq_getElem?_getD, g] at h2
        rw [g, List.getElem?_set, List.getElem?_replicate]
        simp at h2
        by_cases h0 : j = 0
        · subst h0; simp [h2]; omega
        · rw [if_neg (Ne.symm h0), if_pos hj, h2, if_neg h0, if_pos (by omega)]
      · rw [List.getElem?_eq_none (by omega), List.getElem?_eq_none (by simp; omega)]
    rw [Wloop]
    conv => arg 1; arg 1; arg 1; simp [loopAt, loopIn, headId, Try.f71, s7, s9, hi]
    rw [← e] at hK
    exact hK _ (by simp [s0]) (by simp [s3]) (by simp [s7]) (by simp [s8])
  | m + 1, i, ds, σ, hm, h1, hl, hd, s0, s3, s7, s8, s9, hK => by
    have hi : i < n := by omega
    have hlt : decide (i < n) = true := dt hi
    have hx := idxD_nat .i64 hi
    have hw : IntKind.i64.wrap ((i : Int) + 1) = ((i + 1 : Nat) : Int) := wr (by omega) (by omega)
    have hg : ds[i]? = some ds[i] := List.getElem?_eq_getElem (by omega)
    rw [Wloop]
    conv => arg 1; arg 1; arg 1; simp [loopAt, loopIn, headId, Try.f71, s7, s9, hlt, hx, hw, hg]
    rw [Option.bind_some, loopK_normal]
    rw [← List.map_set (f := I)]
    exact rinit_loop f n hn dn p K Q m (i + 1) (ds.set i (-1)) _ (by omega) (by omega) (by simpa using hl) (fun j hj => by
      rw [getD_set]
      by_cases hji : j = i
      · rw [if_pos ⟨hji, by omega⟩, if_neg (by omega), if_pos (by omega)]
      · rw [if_neg (fun h => hji h.1), hd j hj]
        by_cases h0 : j = 0
        · rw [if_pos h0, if_pos h0]
        · rw [if_neg h0, if_neg h0]
          by_cases h2 : j < i
          · rw [if_pos h2, if_pos (by omega)]
          · rw [if_neg h2, if_neg (by omega)]) (by simp [s0]) (by simp [s3]) (by simp [s7]) (by simp [s8]) (by simp) hK
/-- the places that follow are told -/
theorem rlay_loop (f : Fu) (n : Nat) (hn : n = f.c.length) (h200 : n ≤ 200) (dn : List Bool) (l : Option (List Int)) (b : Int) (hb : 0 ≤ b ∧ b ≤ 16) (at_ : Int) (p : D) {X : Type} (K : Ex × St → Option X) (Q : Option X → Prop) : ∀ (ts : List Nat) (j : Nat) (ds : List Int) (σ : Nat → D), (l.getD []).drop j = ts.map (fun (t : Nat) => (t : Int)) → ds.length = n → (∀ i, ds.getD i (-1) = -1 ∨ 0 ≤ ds.getD i (-1)) →
    (l.getD []).length ≤ 2 → σ 0 = p → σ 3 = .ptr 0 0 0 0 → σ 7 = .own 1 1 0 0 n → σ 8 = .own 1 2 0 0 n → σ 10 = I at_ → σ 11 = I b → σ 12 = encL 1 I l → σ 13 = I j →
    (∀ σ' ds' e, lay n b ts ds = .inl e → ds'.length = n → σ' 4 = .own 1 1 0 0 n → σ' 5 = I at_ → σ' 6 = I e → Q (K (.ret, ⟨σ', rH f ds' dn, 106⟩))) →
    (∀ σ' ds', lay n b ts ds = .inr ds' → σ' 0 = p → σ' 3 = .ptr 0 0 0 0 → σ' 7 = .own 1 1 0 0 n → σ' 8 = .own 1 2 0 0 n → Q (K (.exit 4, ⟨σ', rH f ds' dn, 106⟩))) →
    Q ((W Try.prog cfg (.loop (loopAt Try.f71 16)) ⟨σ, rH f ds dn, 106⟩).bind K)
  | [], j, ds, σ, hd, hl, hr, hl2, s0, s3, s7, s8, s10, s11, s12, s13, hr1, he => by
    have hj : ¬ (j < (l.getD []).length) := by have := congrArg List.length hd; simp at this; omega
    rw [Wloop]
    conv => arg 1; arg 1; arg 1; simp [loopAt, loopIn, headId, Try.f71, s12, s13, hj]
    exact he _ ds rfl (by simp [s0]) (by simp [s3]) (by simp [s7]) (by simp [s8])
  | t :: ts, j, ds, σ, hd, hl, hr, hl2, s0, s3, s7, s8, s10, s11, s12, s13, hr1, he => by
    rw [List.map_cons] at hd
    obtain ⟨hg1, hd1, hj⟩ := drop_get hd
    have hlt : decide (j < (l.getD []).length) = true := dt hj
    have hx := idxD_nat .i64 hj
    have hw : IntKind.i64.wrap ((j : Int) + 1) = ((j + 1 : Nat) : Int) := wr (by omega) (by omega)
    have hcl : (f.code.getD []).length = n := hn.symm
    have hdr := dr71_18
    simp [opsAt, opsIn, Try.f71] at hdr
    have hdw := Wdraw0 hdr
    clear hdr
    unfold lay at hr1 he
    cases c1 : decide (n ≤ t)
    case true =>
      have h1 := of_decide_eq_true c1
      rw [if_pos h1] at hr1
      rw [Wloop]
      conv => arg 1; arg 1; arg 1; simp [loopAt, loopIn, headId, Try.f71, s3, s7, s10, s12, s13, hlt, hx, hg1, hdw, hcl, c1]
      exact hr1 _ ds _ rfl hl (by simp) (by simp) (by simp)
    have h1 := of_decide_eq_false c1
    rw [if_neg h1] at hr1 he
    have ht : t < n := by omega
    have hx2 := idxD_nat .i64 ht
    have hgt : ds[t]? = some ds[t] := List.getElem?_eq_getElem (by omega)
    have e1 : ds.getD t (-1) = ds[t] := by simp [List.getD_eq_getElem?_getD, hgt]
    have h0 := hr t
    rw [e1] at h0 hr1 he
    have hset : ∀ v, ds[t] = v → ds.set t v = ds := fun v hv => by rw [← hv]; exact List.set_getElem_self _
    generalize ds[t] = d at *
    cases c2 : decide (0 ≤ d)
    · have hdm : d = -1 := by have := of_decide_eq_false c2; omega
      rw [if_pos hdm] at hr1 he
      rw [Wloop]
      conv => arg 1; arg 1; arg 1; simp [loopAt, loopIn, headId, Try.f71, s3, s7, s10, s11, s12, s13, hlt, hx, hx2, hg1, hgt, hdw, hcl, c1, c2, hw]
      rw [Option.bind_some, loopK_normal]
      rw [← List.map_set (f := I)]
      exact rlay_loop f n hn h200 dn l b hb at_ p K Q ts (j + 1) (ds.set t b) _ hd1 (by simpa using hl) (fun i => by
        rw [getD_set]; split
        · right; omega
        · exact hr i) hl2 (by simp [s0]) (by simp [s3]) (by simp [s7]) (by simp [s8]) (by simp [s10]) (by simp [s11]) (by simp [s12]) (by simp) hr1 he
    · have hdm : d ≠ -1 := by have := of_decide_eq_true c2; omega
      rw [if_neg hdm] at hr1 he
      cases c3 : decide (d = b)
      · rw [if_pos (of_decide_eq_false c3)] at hr1
        rw [Wloop]
        conv => arg 1; arg 1; arg 1; simp [loopAt, loopIn, headId, Try.f71, s3, s7, s10, s11, s12, s13, hlt, hx, hx2, hg1, hgt, hdw, hcl, c1, c2, c3]
        exact hr1 _ ds _ rfl hl (by simp) (by simp) (by simp)
      · have hdb := of_decide_eq_true c3
        rw [if_neg (by simpa using hdb)] at hr1 he
        rw [Wloop]
        conv => arg 1; arg 1; arg 1; simp [loopAt, loopIn, headId, Try.f71, s3, s7, s10, s11, s12, s13, hlt, hx, hx2, hg1, hgt, hdw, hcl, c1, c2, c3, hw]
        rw [Option.bind_some, loopK_normal, ← List.map_set (f := I), hset b hdb]
        exact rlay_loop f n hn h200 dn l b hb at_ p K Q ts (j + 1) ds _ hd1 hl hr hl2 (by simp [s0]) (by simp [s3]) (by simp [s7]) (by simp [s8]) (by simp [s10]) (by simp [s11]) (by simp [s12]) (by simp) hr1 he
theorem count_set {l : List Bool} : ∀ {i : Nat}, i < l.length → l.getD i true = false → ((l.set i true).filter (!·)).length + 1 = (l.filter (!·)).length := by
  induction l with
  | nil => intro i h; simp at h
  | cons b l ih =>
    intro i h1 h2
    cases i with
    | zero => simp at h2; subst h2; simp
    | succ i =>
      have := ih (i := i) (by simpa using h1) (by simpa using h2)
      cases b <;> simp <;> omega
theorem nx_len (x : Instr) (i : Nat) : (nextO x i).getD [] = [] ∨ ((nextO x i).getD []).length ≤ 2 := by
  right; unfold nextO; (repeat' split) <;> simp
theorem rmain_loop (p : Option (List Fu)) (f : Fu) (hs : Safe (p.getD []) f.c) (n : Nat) (hn : n = f.c.length) {X : Type} (K : Ex × St → Option X) (Q : Option X → Prop) : ∀ (k : Nat) (ds : List Int) (dn : List Bool) (σ : Nat → D), Inv (shapes (p.getD []) f.c) ds dn → (dn.filter (!·)).length < k →
    σ 0 = encProg p → σ 3 = .ptr 0 0 0 0 → σ 7 = .own 1 1 0 0 n → σ 8 = .own 1 2 0 0 n →
    (∀ σ' ds' dn' a e, reachN (shapes (p.getD []) f.c) k ds dn = .inl (a, e) → ds'.length = n → σ' 4 = .own 1 1 0 0 n → σ' 5 = I a → σ' 6 = I e → Q (K (.ret, ⟨σ', rH f ds' dn', 106⟩))) →
    (∀ σ' ds' dn', reachN (shapes (p.getD []) f.c) k ds dn = .inr ds' → ds'.length = n → σ' 4 = .own 1 1 0 0 n → σ' 5 = I 0 → σ' 6 = I 0 → Q (K (.ret, ⟨σ', rH f ds' dn', 106⟩))) →
    Q ((W Try.prog cfg (.loop (loopAt Try.f71 7)) ⟨σ, rH f ds dn, 106⟩).bind K)
  | 0, ds, dn, σ, I0, hk, _, _, _, _, _, _ => by omega
  | k + 1, ds, dn, σ, I0, hk, s0, s3, s7, s8, hr1, he => by
    have hsl := shapes_len (p.getD []) f.c
    have hdl : ds.length = n := by rw [I0.len, hsl, hn]
    have hdn : dn.length = n := by rw [I0.dlen, hsl, hn]
    have h200 := hs.len
    have hO := open_spec ds dn (by omega) (by omega) (fun i => by rcases I0.rng i with h | h <;> omega)
    have take1 : ((ds.map I).take n) = ds.map I := List.take_of_length_le (by simp; omega)
    have take2 : ((dn.map D.bool).take n) = dn.map D.bool := List.take_of_length_le (by simp; omega)
    have cl1 : cleans (ds.map I) = true := cl_ints ds
    have cl2 : cleans (dn.map D.bool) = true := cl_bools dn
    unfold reachN at hr1 he
    unfold leastI at hO
    cases hle : least ds dn with
    | none =>
      rw [hle] at hO hr1 he
      rw [Wloop]
      conv => arg 1; arg 1; arg 1; simp [loopAt, loopIn, headId, Try.f71, s7, s8, exp_own, elsOf_own, hdl, hdn, take1, take2, cl1, cl2, hO, retK_flat]
      exact he _ ds dn rfl hdl (by simp) (by simp) (by simp)
    | some at_ =>
      rw [hle] at hO hr1 he
      obtain ⟨_, ha2, ha3, ha4⟩ := leastF_some hle
      have hat : at_ < n := by omega
      have hg : f.c[at_]? = some f.c[at_] := List.getElem?_eq_getElem (by omega)
      have hxm : f.c[at_] ∈ f.c := List.getElem_mem _
      have hx := idxD_nat .i64 hat
      have hx' : idxD (f.code.getD []).length (D.int .i64 (at_ : Int)) = some at_ := idxD_nat .i64 (by show at_ < f.c.length; omega)
      have hgd : ds[at_]? = some ds[at_] := List.getElem?_eq_getElem (by omega)
      have e1 : ds.getD at_ (-1) = ds[at_] := by simp [List.getD_eq_getElem?_getD, hgd]
      have hgn : dn[at_]? = some dn[at_] := List.getElem?_eq_getElem (by omega)
      have hrg := I0.rng at_
      rw [e1] at hrg ha3
      have hsh : (shapes (p.getD []) f.c)[at_]? = some ⟨offP (p.getD []) f.c[at_], on6 f.c[at_].op, nextP f.c[at_] at_⟩ := by rw [shapes_get, hg]; rfl
      simp only [hsh, e1, hsl] at hr1 he
      have hg' : (f.code.getD [])[at_]? = some f.c[at_] := hg
      have hB := rbehind_spec p f.c hs f.c[at_] hxm ds[at_] (by omega)
      have hN := rnext_spec f.c[at_] at_ (by omega)
      have hnP := nextO_P f.c[at_] at_ (hs.a hxm).2.2.1
      have hnl : ((nextO f.c[at_] at_).getD []).length ≤ 2 := by rcases nx_len f.c[at_] at_ with h | h; rw [h]; simp; exact h
      have hof := hs.off hxm
      have hon := on6_le f.c[at_].op
      generalize hy : f.c[at_] = y at *
      generalize hz : ds[at_] = d at *
      have hdr := dr71_11
      simp [opsAt, opsIn, Try.f71] at hdr
      have hdw := Wdraw0 hdr
      clear hdr
      have hneg : decide ((at_ : Int) < 0) = false := df (by omega)
      have hset : (dn.map D.bool).set at_ (.bool true) = (dn.set at_ true).map D.bool := by rw [List.map_set]
      by_cases hok : d < offP (p.getD []) y ∨ 16 < d - offP (p.getD []) y + on6 y.op
      · rw [if_pos hok] at hB hr1 he
        rw [Wloop]
        conv => arg 1; arg 1; arg 1; simp [loopAt, loopIn, headId, Try.f71, s0, s3, s7, s8, exp_own, elsOf_own, hdl, hdn, take1, take2, cl1, cl2, hO, retK_flat, hneg, hx, hx', hgd, hgn, hg', hdw, hB]
        rw [hset]
        exact hr1 _ ds _ _ _ rfl hdl (by simp) (by simp) (by simp)
      · rw [if_neg hok] at hB hr1 he
        have hb0 : decide (d - offP (p.getD []) y + on6 y.op < 0) = false := df (by omega)
        have hb : 0 ≤ d - offP (p.getD []) y + on6 y.op ∧ d - offP (p.getD []) y + on6 y.op ≤ 16 := by omega
        have Istep := fun r => I0.step (r := r) (shapes_on (p.getD []) f.c) hle hsh
        simp only [e1, hsl] at Istep
        generalize d - offP (p.getD []) y + on6 y.op = b at *
        rw [Wloop]
        conv => arg 1; arg 1; arg 1; simp [loopAt, loopIn, headId, Try.f71, s0, s3, s7, s8, exp_own, elsOf_own, hdl, hdn, take1, take2, cl1, cl2, hO, retK_flat, hneg, hx, hx', hgd, hgn, hg', hdw, hB, hb0, hN]
        rw [hset]
        simp only [Option.bind_assoc]
        refine rlay_loop f n hn (by omega) (dn.set at_ true) (nextO y at_) b hb at_ (encProg p) _ Q (nextP y at_) 0 ds _ (by simpa using hnP) hdl (fun i => by rcases I0.rng i with h | h <;> omega) hnl (by simp [s0]) (by simp [s3]) (by simp [s7]) (by simp [s8]) (by simp) (by simp) (by simp) (by simp) ?_ ?_
        · intro σ' ds' e hl h1 h2 h3 h4
          rw [← hn, hl] at hr1
          simp
          exact hr1 σ' ds' _ _ _ rfl h1 h2 h3 h4
        · intro σ' ds' hl t0 t3 t7 t8
          rw [← hn, hl] at hr1 he
          simp
          refine rmain_loop p f hs n hn K Q k ds' (dn.set at_ true) σ' (Istep ds' hok (by rw [← hn]; exact hl)) ?_ t0 t3 t7 t8 hr1 he
          have := count_set (l := dn) (i := at_) (by omega) ha4
          omega
theorem rreach_spec (p : Option (List Fu)) (f : Fu) (hs : Safe (p.getD []) f.c) (h1 : 1 ≤ f.c.length) :
    match reach (shapes (p.getD []) f.c) with
    | .inl (a, e) => ∃ ds : List Int, fnc Try.prog cfg R 71 [encProg p, encFunc f] = some (.tup [.sl 1 (ds.map I) false, I a, I e])
    | .inr ds => fnc Try.prog cfg R 71 [encProg p, encFunc f] = some (.tup [.sl 1 (ds.map I) false, I 0, I 0]) := by
  have h200 := hs.len
  have hsl := shapes_len (p.getD []) f.c
  have hmk := fun (hp : List Ob) => mk_slice (P := Try.prog) el51 sz3 by3 ze3 (by simp) (by decide) (by decide) hp .i64 .i64 f.c.length f.c.length (by omega) (by omega) (by omega)
  have hmk2 := fun (hp : List Ob) => mk_slice (P := Try.prog) el79 sz4 by4 ze4 (by simp) (by decide) (by decide) hp .i64 .i64 f.c.length f.c.length (by omega) (by omega) (by omega)
  simp only [Int.toNat_natCast] at hmk hmk2
  have hcl : (f.code.getD []).length = f.c.length := rfl
  have r1 : List.replicate f.c.length (D.int .i64 0) = (List.replicate f.c.length (0 : Int)).map I := by simp
  have r2 : List.replicate f.c.length (D.bool false) = (List.replicate f.c.length false).map D.bool := by simp
  rw [r1] at hmk
  rw [r2] at hmk2
  rw [fnc_at rfl, body_eq Try.func71 rfl rfl]
  have main : ∀ (Q : Option D → Prop), (∀ (ds' : List Int) a e, reach (shapes (p.getD []) f.c) = .inl (a, e) → Q (some (.tup [.sl 1 (ds'.map I) false, I a, I e]))) → (∀ (ds' : List Int), reach (shapes (p.getD []) f.c) = .inr ds' → Q (some (.tup [.sl 1 (ds'.map I) false, I 0, I 0]))) →
      Q (((R (Try.f71.body.getD .skip) ⟨argsσ [encProg p, encFunc f], [], 106⟩).bind (endK Try.prog Try.f71)).bind finK) := by
    intro Q q1 q2
    simp [argsσ, Try.f71, hcl, hmk, hmk2, Option.bind_assoc, -List.map_replicate]
    refine rinit_loop f f.c.length (by omega) _ (encProg p) _ Q (f.c.length - 1) 1 (List.replicate f.c.length 0) _ (by omega) (Nat.le_refl _) (by simp) (fun j hj => by simp [List.getD_eq_getElem?_getD, List.getElem?_replicate, hj]) (by simp [argsσ]) (by simp) (by simp) (by simp) (by simp) ?_
    intro σ' t0 t3 t7 t8
    simp only [blockK_exit, if_true, Option.bind_some, seqK_normal, Wblock, Option.bind_assoc]
    refine rmain_loop p f hs f.c.length rfl _ Q (f.c.length + 1) _ _ σ' ?_ ?_ t0 t3 t7 t8 ?_ ?_
    · have := Inv.init (sh := shapes (p.getD []) f.c) (by omega); rw [hsl] at this; exact this
    · simp
    · intro σ2 ds' dn' a e hr hl u4 u5 u6
      have hr' : reach (shapes (p.getD []) f.c) = .inl (a, e) := by unfold reach; rw [hsl]; exact hr
      have take1 : ((ds'.map I).take f.c.length) = ds'.map I := List.take_of_length_le (by simp; omega)
      simp [u4, u5, u6, Vm.results, exp_own, elsOf_own, hl, take1, cl_ints]
      exact q1 ds' a e hr'
    · intro σ2 ds' dn' hr hl u4 u5 u6
      have hr' : reach (shapes (p.getD []) f.c) = .inr ds' := by unfold reach; rw [hsl]; exact hr
      have take1 : ((ds'.map I).take f.c.length) = ds'.map I := List.take_of_length_le (by simp; omega)
      simp [u4, u5, u6, Vm.results, exp_own, elsOf_own, hl, take1, cl_ints]
      exact q2 ds' hr'
  cases hR : reach (shapes (p.getD []) f.c) with
  | inl r =>
    obtain ⟨a, e⟩ := r
    exact main (fun o => ∃ ds : List Int, o = some (.tup [.sl 1 (ds.map I) false, I a, I e])) (fun ds' a' e' h => by rw [hR] at h; cases h; exact ⟨ds', rfl⟩) (fun ds' h => by rw [hR] at h; cases h)
  | inr ds => exact main (fun o => o = some (.tup [.sl 1 (ds.map I) false, I 0, I 0])) (fun ds' a' e' h => by rw [hR] at h; cases h) (fun ds' h => by rw [hR] at h; cases h; rfl)
end Go.Proofs.YtlpadffinfijgaaW.Rg
set_option linter.unusedVariables false
set_option linter.unusedSimpArgs false
namespace Go.Proofs.YtlpadffinfijgaaW.Rg
open Go.Proofs.YtlpadffinfijgaaW.Vm Go.Proofs.YtlpadffinfijgaaW.Md
open Go Go.Proofs
def Jumps (c : List Instr) : Prop := ∀ x ∈ c, (x.op = 10 ∨ x.op = 11) → x.a < c.length
theorem fm_safe {p : List Fu} (hm : mayP p = true) {f : Fu} (hf : f ∈ p) (h : ∀ x ∈ f.c, fieldE p.length f x = 0) : Safe p f.c ∧ Jumps f.c := by
  have hfm := mayP_f hm hf
  refine ⟨⟨fun g hg => ⟨(fmay_head (mayP_f hm hg)).1, (fmay_head (mayP_f hm hg)).2.1⟩, fmay_all hfm, fun x hx h13 => (fieldE_spawn (h x hx) h13).2, (fmay_len hfm).2⟩, fun x hx ho => ?_⟩
  have e := h x hx
  unfold fieldE at e
  rw [if_neg (by omega), if_neg (by omega), if_neg (by omega), if_pos ho] at e
  split at e <;> omega
theorem rfields_loop (p : Option (List Fu)) (f : Fu) (h200 : f.c.length ≤ 200) {X : Type} (K : Ex × St → Option X) (Q : Option X → Prop) : ∀ (rest : List Instr) (i : Nat) (σ : Nat → D), f.c.drop i = rest →
    σ 0 = encProg p → σ 3 = .ptr 0 0 0 0 → σ 6 = I i →
    (∀ σ' (j : Nat) e, firstE (p.getD []).length f i rest = some (j, e) → σ' 4 = I j → σ' 5 = I e → Q (K (.ret, ⟨σ', [⟨0, 4, [encFunc f], 0⟩], 44⟩))) →
    (∀ σ', firstE (p.getD []).length f i rest = none → σ' 0 = encProg p → σ' 3 = .ptr 0 0 0 0 → Q (K (.exit 0, ⟨σ', [⟨0, 4, [encFunc f], 0⟩], 44⟩))) →
    Q ((W Try.prog cfg (.loop (loopAt Try.f42 4)) ⟨σ, [⟨0, 4, [encFunc f], 0⟩], 44⟩).bind K) := by
  intro rest
  induction rest with
  | nil =>
    intro i σ hd s0 s3 s6 hr1 he
    have hi : ¬ (i < (f.code.getD []).length) := by have := congrArg List.length hd; simp at this; exact Nat.not_lt.2 (Nat.le_of_sub_eq_zero this)
    rw [Wloop]
    conv => arg 1; arg 1; arg 1; simp [loopAt, loopIn, headId, Try.f42, s3, s6, hi]
    exact he _ rfl (by simp [s0]) (by simp [s3])
  | cons y rest ih =>
    intro i σ hd s0 s3 s6 hr1 he
    obtain ⟨hg1, hd1, hi⟩ := drop_get hd
    have hi' : i < (f.code.getD []).length := hi
    have hlt : decide (i < (f.code.getD []).length) = true := dt hi
    have hg' : (f.code.getD [])[i]? = some y := hg1
    have hx : idxD (f.code.getD []).length (D.int .i64 (i : Int)) = some i := idxD_nat .i64 hi
    have hw : IntKind.i64.wrap ((i : Int) + 1) = ((i + 1 : Nat) : Int) := wr (by omega) (by omega)
    have hF := rfield_spec p f y
    have hd := dr42_6
    simp [opsAt, opsIn, Try.f42] at hd
    have hdw := Wdraw0 hd
    clear hd
    unfold firstE at hr1 he
    generalize hE : fieldE (p.getD []).length f y = e at *
    cases c1 : decide (e = 0)
    · rw [if_neg (of_decide_eq_false c1)] at hr1
      rw [Wloop]
      conv => arg 1; arg 1; arg 1; simp [loopAt, loopIn, headId, Try.f42, s0, s3, s6, hlt, hx, hg', hdw, hF, c1]
      exact hr1 _ i e rfl (by simp) (by simp)
    · rw [if_pos (of_decide_eq_true c1)] at hr1 he
      rw [Wloop]
      conv => arg 1; arg 1; arg 1; simp [loopAt, loopIn, headId, Try.f42, s0, s3, s6, hlt, hx, hg', hdw, hF, c1, hw]
      rw [Option.bind_some, loopK_normal]
      exact ih (i + 1) _ hd1 (by simp [s0]) (by simp [s3]) (by simp) hr1 he
theorem rfunction_spec (p : Option (List Fu)) (hm : mayP (p.getD []) = true) (f : Fu) (hf : f ∈ p.getD []) : ∃ a, fnc Try.prog cfg R 42 [encProg p, encFunc f] = some (.tup [I a, I (funcE (p.getD []) f).2]) ∧ ((funcE (p.getD []) f).2 ≠ 0 → a = (funcE (p.getD []) f).1) := by
  have hfm := mayP_f hm hf
  have hl := fmay_len hfm
  have main : (fun o : Option D => ∃ a, o = some (.tup [I a, I (funcE (p.getD []) f).2]) ∧ ((funcE (p.getD []) f).2 ≠ 0 → a = (funcE (p.getD []) f).1)) (fnc Try.prog cfg R 42 [encProg p, encFunc f]) := by
    rw [fnc_at rfl, body_eq Try.func42 rfl rfl]
    cases c0 : decide (f.locals < f.arity)
    · simp [argsσ, c0, Option.bind_assoc]
      refine rfields_loop p f hl.2 _ (fun o : Option D => ∃ a, o = some (.tup [I a, I (funcE (p.getD []) f).2]) ∧ (¬ (funcE (p.getD []) f).2 = 0 → a = (funcE (p.getD []) f).1)) f.c 0 _ (by simp) (by simp [argsσ]) (by simp) (by simp) ?_ ?_
      · intro σ' j e hE h4 h5
        have e1 : funcE (p.getD []) f = ((j : Int), e) := by unfold funcE; rw [if_neg (of_decide_eq_false c0), hE]
        simp [h4, h5, Vm.results, e1]
      · intro σ' hE h0 h3
        obtain ⟨hs, hj⟩ := fm_safe hm hf (firstE_none.1 hE)
        have hR := rreach_spec p f hs hl.1
        have e1 : funcE (p.getD []) f = match reach (shapes (p.getD []) f.c) with | .inl r => r | .inr _ => (0, 0) := by unfold funcE; rw [if_neg (of_decide_eq_false c0), hE]; rfl
        rw [e1]
        cases hr : reach (shapes (p.getD []) f.c) with
        | inl r =>
          obtain ⟨a, e⟩ := r
          rw [hr] at hR
          obtain ⟨ds, hR⟩ := hR
          simp [h0, h3, hR, Vm.results]
        | inr d =>
          rw [hr] at hR
          simp [h0, h3, hR, Vm.results]
    · have e1 : funcE (p.getD []) f = (0, 80) := by unfold funcE; rw [if_pos (of_decide_eq_true c0)]
      simp [argsσ, c0, Vm.results, e1]
  exact main
theorem rcheck_loop (p : Option (List Fu)) (hm : mayP (p.getD []) = true) {X : Type} (K : Ex × St → Option X) (Q : Option X → Prop) : ∀ (rest : List Fu) (i : Nat) (σ : Nat → D), (p.getD []).drop i = rest →
    σ 0 = encProg p → σ 5 = I i →
    (∀ σ', (goE (p.getD []) i rest).2.2 ≠ 0 → σ' 2 = I (goE (p.getD []) i rest).1 → σ' 3 = I (goE (p.getD []) i rest).2.1 → σ' 4 = I (goE (p.getD []) i rest).2.2 → Q (K (.ret, ⟨σ', [], 31⟩))) →
    (∀ σ', goE (p.getD []) i rest = (0, 0, 0) → Q (K (.exit 0, ⟨σ', [], 31⟩))) →
    Q ((W Try.prog cfg (.loop (loopAt Try.f25 4)) ⟨σ, [], 31⟩).bind K) := by
  have hpl : (p.getD []).length ≤ 16 := by unfold mayP at hm; simp only [Bool.and_eq_true, decide_eq_true_eq] at hm; omega
  intro rest
  induction rest with
  | nil =>
    intro i σ hd s0 s5 hr1 he
    have hi : ¬ (i < (p.getD []).length) := by have := congrArg List.length hd; simp at this; omega
    rw [Wloop]
    conv => arg 1; arg 1; arg 1; simp [loopAt, loopIn, headId, Try.f25, s0, s5, hi]
    exact he _ rfl
  | cons f rest ih =>
    intro i σ hd s0 s5 hr1 he
    obtain ⟨hg1, hd1, hi⟩ := drop_get hd
    have hlt : decide (i < (p.getD []).length) = true := dt hi
    have hx := idxD_nat .i64 hi
    have hw : IntKind.i64.wrap ((i : Int) + 1) = ((i + 1 : Nat) : Int) := wr (by omega) (by omega)
    obtain ⟨a, hF, ha⟩ := rfunction_spec p hm f (List.mem_of_getElem? hg1)
    unfold goE at hr1 he
    cases c1 : decide ((funcE (p.getD []) f).2 = 0)
    · have h1 := of_decide_eq_false c1
      rw [if_neg h1] at hr1
      rw [ha h1] at hF
      rw [Wloop]
      conv => arg 1; arg 1; arg 1; simp [loopAt, loopIn, headId, Try.f25, s0, s5, hlt, hx, hg1, hF, c1]
      exact hr1 _ h1 (by simp) (by simp) (by simp)
    · rw [if_pos (of_decide_eq_true c1)] at hr1 he
      rw [Wloop]
      conv => arg 1; arg 1; arg 1; simp [loopAt, loopIn, headId, Try.f25, s0, s5, hlt, hx, hg1, hF, c1, hw]
      rw [Option.bind_some, loopK_normal]
      exact ih (i + 1) _ hd1 (by simp [s0]) (by simp) hr1 he
theorem rcheck_spec (p : Option (List Fu)) (hb : Bnd (p.getD [])) : fnc Try.prog cfg R 25 [encProg p] = some (.tup [I (check (p.getD [])).1, I (check (p.getD [])).2.1, I (check (p.getD [])).2.2]) := by
  have hM := rmay7_spec p hb
  rw [fnc_at rfl, body_eq Try.func25 rfl rfl]
  unfold check
  cases hm : mayP (p.getD []) with
  | false =>
    rw [hm] at hM
    simp [argsσ, Vm.results, hM]
  | true =>
    rw [hm] at hM
    rw [if_pos rfl]
    simp [argsσ, hM, Option.bind_assoc]
    refine rcheck_loop p hm _ (fun o => o = some _) (p.getD []) 0 _ (by simp) (by simp [argsσ]) (by simp) ?_ ?_
    · intro σ' h0 h2 h3 h4
      simp [h2, h3, h4, Vm.results]
    · intro σ' h0
      simp [Vm.results, h0]
theorem rgood_spec (p : Option (List Fu)) (hb : Bnd (p.getD [])) : fnc Try.prog cfg R 12 [encProg p] = some (.bool (good (p.getD []))) := by
  have hC := rcheck_spec p hb
  rw [fnc_at rfl, body_eq Try.func12 rfl rfl]
  unfold good
  simp [argsσ, Vm.results, hC]
  rfl
/-- how many instructions there are, as 64 bits tell it -/
def sumW : Int → List Fu → Int
  | n, [] => n
  | n, f :: fs => sumW (IntKind.i64.wrap (n + f.c.length)) fs
theorem small_loop (p : Option (List Fu)) (h20 : (p.getD []).length ≤ 20) (m : D) {X : Type} (K : Ex × St → Option X) (Q : Option X → Prop) : ∀ (rest : List Fu) (i : Nat) (n : Int) (σ : Nat → D), (p.getD []).drop i = rest →
    σ 0 = encProg p → σ 1 = m → σ 5 = I n → σ 6 = I i →
    (∀ σ', σ' 0 = encProg p → σ' 1 = m → σ' 5 = I (sumW n rest) → Q (K (.exit 0, ⟨σ', [], 34⟩))) →
    Q ((W Try.prog cfg (.loop (loopAt Try.f19 3)) ⟨σ, [], 34⟩).bind K) := by
  intro rest
  induction rest with
  | nil =>
    intro i n σ hd s0 s1 s5 s6 he
    have hi : ¬ (i < (p.getD []).length) := by have := congrArg List.length hd; simp at this; omega
    rw [Wloop]
    conv => arg 1; arg 1; arg 1; simp [loopAt, loopIn, headId, Try.f19, s0, s6, hi]
    exact he _ (by simp [s0]) (by simp [s1]) (by simp [s5, sumW])
  | cons f rest ih =>
    intro i n σ hd s0 s1 s5 s6 he
    obtain ⟨hg1, hd1, hi⟩ := drop_get hd
    have hlt : decide (i < (p.getD []).length) = true := dt hi
    have hx := idxD_nat .i64 hi
    have hw : IntKind.i64.wrap ((i : Int) + 1) = ((i + 1 : Nat) : Int) := wr (by omega) (by omega)
    have d20 : decide (((p.getD []).length : Int) ≤ 20) = true := dt (by omega)
    rw [Wloop]
    conv => arg 1; arg 1; arg 1; simp [loopAt, loopIn, headId, Try.f19, s0, s1, s5, s6, hlt, hx, hg1, hw, d20]
    rw [Option.bind_some, loopK_normal]
    exact ih (i + 1) _ _ hd1 (by simp [s0]) (by simp [s1]) (by simp; rfl) (by simp) he
def small (p : List Fu) (m : Int) : Bool := decide (p.length ≤ 20) && decide (sumW 0 p ≤ m)
theorem small_spec (p : Option (List Fu)) (m : Int) : fnc Try.prog cfg R 19 [encProg p, I m] = some (.bool (small (p.getD []) m)) := by
  rw [fnc_at rfl, body_eq Try.func19 rfl rfl]
  unfold small
  cases c1 : decide ((p.getD []).length ≤ 20)
  · have d20 : decide (((p.getD []).length : Int) ≤ 20) = false := df (by have := of_decide_eq_false c1; omega)
    cases c2 : decide (0 < (p.getD []).length) <;> simp [argsσ, Wloop, Vm.results, d20, c2]
  · have d20 : decide (((p.getD []).length : Int) ≤ 20) = true := dt (by have := of_decide_eq_true c1; omega)
    simp [argsσ, Option.bind_assoc]
    refine small_loop p (of_decide_eq_true c1) (I m) _ (fun o => o = some _) (p.getD []) 0 0 _ (by simp) (by simp [argsσ]) (by simp [argsσ]) (by simp) (by simp) ?_
    intro σ' h0 h1 h5
    simp [h0, h1, h5, d20, Vm.results]
end Go.Proofs.YtlpadffinfijgaaW.Rg
