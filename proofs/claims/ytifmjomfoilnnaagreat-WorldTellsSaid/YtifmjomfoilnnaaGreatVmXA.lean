/- Equal lists, sorted numbers; when a pen may be. No conditions. -/
import Derived.Test.YtifmjomfoilnnaaGreatVmXE
import Derived.Test.YtifmjomfoilnnaaGreatVmPM
import Derived.Test.YtifmjomfoilnnaaGreatVmPX
import Derived.Test.YtifmjomfoilnnaaGreatVmPM2
set_option linter.unusedVariables false
set_option linter.unusedSimpArgs false
set_option maxRecDepth 10000
namespace Go.Proofs.YtifmjomfoilnnaaGreatW.Rg
open Go.Proofs.YtifmjomfoilnnaaGreatW.Vm Go.Proofs.YtifmjomfoilnnaaGreatW.Md
open Go Go.Proofs
theorem neq_rf (s t : Operand) (x y : Rf) : binD Tryz.prog .neq 36 s t (encRf x) (encRf y) = some (.bool (!decide (x = y))) := by
  obtain ⟨d, e⟩ := x
  obtain ⟨d', e'⟩ := y
  simp only [binD, scal, eqD, ft36, scalsEq, scalEq]
  simp only [Option.map_some, if_true, Option.some.injEq, D.bool.injEq]
  rw [Bool.eq_iff_iff]
  simp
@[simp] theorem ixL_rf (b : Option (List Rf)) (i : D) : indexAddrD Tryz.prog 34 (encL 2 encRf b) i = (idxD (b.getD []).length i).map fun i => .fptr 2 ((b.getD []).map encRf) i 0 := ixL un34 sz36 b i
theorem rints_loop (a b : Option (List Int)) (hlen : (a.getD []).length = (b.getD []).length) (hs : (a.getD []).length < 2 ^ 62) {X : Type} (K : Ex × St → Option X) (Q : Option X → Prop) : ∀ (m i : Nat) (σ : Nat → D), i + m = (a.getD []).length →
    σ 0 = encL 1 I a → σ 1 = encL 1 I b → σ 5 = I i →
    (∀ σ', (a.getD []).drop i = (b.getD []).drop i → Q (K (.exit 0, ⟨σ', [], 26⟩))) → (∀ σ', (a.getD []).drop i ≠ (b.getD []).drop i → σ' 4 = .bool false → Q (K (.ret, ⟨σ', [], 26⟩))) →
    Q ((W Tryz.prog cfg (.loop (loopAt Tryz.f72 4)) ⟨σ, [], 26⟩).bind K) := by
  intro m
  induction m with
  | zero =>
    intro i σ hi s0 s1 s5 hK hR
    have h0 : ¬ (i < (a.getD []).length) := by omega
    rw [Wloop]
    conv => arg 1; arg 1; arg 1; simp [loopAt, loopIn, headId, Tryz.f72, s0, s1, s5, h0]
    exact hK _ (by rw [List.drop_eq_nil_of_le (by omega), List.drop_eq_nil_of_le (by omega)])
  | succ m ih =>
    intro i σ hi s0 s1 s5 hK hR
    have ha : i < (a.getD []).length := by omega
    have hb : i < (b.getD []).length := by omega
    have hlt : decide (i < (a.getD []).length) = true := dt ha
    have xa := idxD_nat .i64 ha; have xb := idxD_nat .i64 hb
    have ga : (a.getD [])[i]? = some (a.getD [])[i] := List.getElem?_eq_getElem ha
    have gb : (b.getD [])[i]? = some (b.getD [])[i] := List.getElem?_eq_getElem hb
    have hw : IntKind.i64.wrap ((i : Int) + 1) = ((i + 1 : Nat) : Int) := wr (by omega) (by omega)
    have hd := dr72_6
    simp [opsAt, opsIn, Tryz.f72] at hd
    have hdw := Wdraw0 hd
    clear hd
    cases k : decide ((a.getD [])[i] = (b.getD [])[i])
    · skip
      have hne : (a.getD []).drop i ≠ (b.getD []).drop i := fun h => (of_decide_eq_false k) ((drop_eq_iff ha hb).1 h).1
      generalize (a.getD [])[i] = u at *
      generalize (b.getD [])[i] = v at *
      rw [Wloop]
      conv => arg 1; arg 1; arg 1; simp [loopAt, loopIn, headId, Tryz.f72, s0, s1, s5, hlt, xa, xb, ga, gb, hdw, k]
      exact hR _ hne (by simp)
    · have e := of_decide_eq_true k
      have hK' : ∀ σ', (a.getD []).drop (i + 1) = (b.getD []).drop (i + 1) → Q (K (.exit 0, ⟨σ', [], 26⟩)) := fun σ' h => hK σ' ((drop_eq_iff ha hb).2 ⟨e, h⟩)
      have hR' : ∀ σ', (a.getD []).drop (i + 1) ≠ (b.getD []).drop (i + 1) → σ' 4 = .bool false → Q (K (.ret, ⟨σ', [], 26⟩)) := fun σ' h => hR σ' (fun h2 => h ((drop_eq_iff ha hb).1 h2).2)
      clear hK hR
      generalize (a.getD [])[i] = u at *
      generalize (b.getD [])[i] = v at *
      rw [Wloop]
      conv => arg 1; arg 1; arg 1; simp [loopAt, loopIn, headId, Tryz.f72, s0, s1, s5, hlt, xa, xb, ga, gb, hdw, k, hw]
      rw [Option.bind_some, loopK_normal]
      exact ih (i + 1) _ (by omega) (by simp [s0]) (by simp [s1]) (by simp) hK' hR'
theorem rints_spec (a b : Option (List Int)) (hs : (a.getD []).length < 2 ^ 62) : fnc Tryz.prog cfg R 72 [encL 1 I a, encL 1 I b] = some (.bool (decide (a.getD [] = b.getD []))) := by
  rw [fnc_at rfl, body_eq Tryz.func72 rfl rfl]
  cases k : decide ((a.getD []).length = (b.getD []).length)
  · have e : decide (a.getD [] = b.getD []) = false := df (fun h => (of_decide_eq_false k) (by rw [h]))
    rw [e]
    have k' : decide (((a.getD []).length : Int) = ((b.getD []).length : Int)) = false := df (by have := of_decide_eq_false k; omega)
    simp [argsσ, Vm.results, k, k']
  · have hl := of_decide_eq_true k
    have k' : decide (((a.getD []).length : Int) = ((b.getD []).length : Int)) = true := dt (by omega)
    simp [argsσ, k, k', Option.bind_assoc]
    refine rints_loop a b hl hs _ (fun o => o = some _) (a.getD []).length 0 _ (by omega) (by simp [argsσ]) (by simp [argsσ]) (by simp) ?_ ?_
    · intro σ' h
      simp only [List.drop_zero] at h
      have e : decide (a.getD [] = b.getD []) = true := dt h
      simp [Vm.results, e, h]
    · intro σ' h t4
      simp only [List.drop_zero] at h
      simp [Vm.results, t4, h]
theorem refs_loop (a b : Option (List Rf)) (hlen : (a.getD []).length = (b.getD []).length) (hs : (a.getD []).length < 2 ^ 62) {X : Type} (K : Ex × St → Option X) (Q : Option X → Prop) : ∀ (m i : Nat) (σ : Nat → D), i + m = (a.getD []).length →
    σ 0 = encL 2 encRf a → σ 1 = encL 2 encRf b → σ 5 = I i →
    (∀ σ', (a.getD []).drop i = (b.getD []).drop i → Q (K (.exit 0, ⟨σ', [], 26⟩))) → (∀ σ', (a.getD []).drop i ≠ (b.getD []).drop i → σ' 4 = .bool false → Q (K (.ret, ⟨σ', [], 26⟩))) →
    Q ((W Tryz.prog cfg (.loop (loopAt Tryz.f15 4)) ⟨σ, [], 26⟩).bind K) := by
  intro m
  induction m with
  | zero =>
    intro i σ hi s0 s1 s5 hK hR
    have h0 : ¬ (i < (a.getD []).length) := by omega
    rw [Wloop]
    conv => arg 1; arg 1; arg 1; simp [loopAt, loopIn, headId, Tryz.f15, s0, s1, s5, h0]
    exact hK _ (by rw [List.drop_eq_nil_of_le (by omega), List.drop_eq_nil_of_le (by omega)])
  | succ m ih =>
    intro i σ hi s0 s1 s5 hK hR
    have ha : i < (a.getD []).length := by omega
    have hb : i < (b.getD []).length := by omega
    have hlt : decide (i < (a.getD []).length) = true := dt ha
    have xa := idxD_nat .i64 ha; have xb := idxD_nat .i64 hb
    have ga : (a.getD [])[i]? = some (a.getD [])[i] := List.getElem?_eq_getElem ha
    have gb : (b.getD [])[i]? = some (b.getD [])[i] := List.getElem?_eq_getElem hb
    have hw : IntKind.i64.wrap ((i : Int) + 1) = ((i + 1 : Nat) : Int) := wr (by omega) (by omega)
    have hd := dr15_6
    simp [opsAt, opsIn, Tryz.f15] at hd
    have hdw := Wdraw0 hd
    clear hd
    have hq := fun s t => neq_rf s t (a.getD [])[i] (b.getD [])[i]
    cases k : decide ((a.getD [])[i] = (b.getD [])[i])
    · rw [k] at hq
      have hne : (a.getD []).drop i ≠ (b.getD []).drop i := fun h => (of_decide_eq_false k) ((drop_eq_iff ha hb).1 h).1
      generalize (a.getD [])[i] = u at *
      generalize (b.getD [])[i] = v at *
      rw [Wloop]
      conv => arg 1; arg 1; arg 1; simp [loopAt, loopIn, headId, Tryz.f15, s0, s1, s5, hlt, xa, xb, ga, gb, hdw, hq]
      exact hR _ hne (by simp)
    · have e := of_decide_eq_true k
      rw [k] at hq
      have hK' : ∀ σ', (a.getD []).drop (i + 1) = (b.getD []).drop (i + 1) → Q (K (.exit 0, ⟨σ', [], 26⟩)) := fun σ' h => hK σ' ((drop_eq_iff ha hb).2 ⟨e, h⟩)
      have hR' : ∀ σ', (a.getD []).drop (i + 1) ≠ (b.getD []).drop (i + 1) → σ' 4 = .bool false → Q (K (.ret, ⟨σ', [], 26⟩)) := fun σ' h => hR σ' (fun h2 => h ((drop_eq_iff ha hb).1 h2).2)
      clear hK hR
      generalize (a.getD [])[i] = u at *
      generalize (b.getD [])[i] = v at *
      rw [Wloop]
      conv => arg 1; arg 1; arg 1; simp [loopAt, loopIn, headId, Tryz.f15, s0, s1, s5, hlt, xa, xb, ga, gb, hdw, hq, hw]
      rw [Option.bind_some, loopK_normal]
      exact ih (i + 1) _ (by omega) (by simp [s0]) (by simp [s1]) (by simp) hK' hR'
theorem refs_spec (a b : Option (List Rf)) (hs : (a.getD []).length < 2 ^ 62) : fnc Tryz.prog cfg R 15 [encL 2 encRf a, encL 2 encRf b] = some (.bool (decide (a.getD [] = b.getD []))) := by
  rw [fnc_at rfl, body_eq Tryz.func15 rfl rfl]
  cases k : decide ((a.getD []).length = (b.getD []).length)
  · have e : decide (a.getD [] = b.getD []) = false := df (fun h => (of_decide_eq_false k) (by rw [h]))
    rw [e]
    have k' : decide (((a.getD []).length : Int) = ((b.getD []).length : Int)) = false := df (by have := of_decide_eq_false k; omega)
    simp [argsσ, Vm.results, k, k']
  · have hl := of_decide_eq_true k
    have k' : decide (((a.getD []).length : Int) = ((b.getD []).length : Int)) = true := dt (by omega)
    simp [argsσ, k, k', Option.bind_assoc]
    refine refs_loop a b hl hs _ (fun o => o = some _) (a.getD []).length 0 _ (by omega) (by simp [argsσ]) (by simp [argsσ]) (by simp) ?_ ?_
    · intro σ' h
      simp only [List.drop_zero] at h
      have e : decide (a.getD [] = b.getD []) = true := dt h
      simp [Vm.results, e, h]
    · intro σ' h t4
      simp only [List.drop_zero] at h
      simp [Vm.results, t4, h]
theorem eqI_loop (a b : Option (List Int)) (hlen : (a.getD []).length = (b.getD []).length) (hs : (a.getD []).length < 2 ^ 62) {X : Type} (K : Ex × St → Option X) (Q : Option X → Prop) : ∀ (m i : Nat) (σ : Nat → D), i + m = (a.getD []).length →
    σ 0 = encL 1 I a → σ 1 = encL 1 I b → σ 12 = I (a.getD []).length → σ 13 = I i →
    (∀ σ', (a.getD []).drop i = (b.getD []).drop i → Q (K (.exit 0, ⟨σ', [], 26⟩))) → (∀ σ', (a.getD []).drop i ≠ (b.getD []).drop i → σ' 4 = .bool false → Q (K (.ret, ⟨σ', [], 26⟩))) →
    Q ((W Tryz.prog cfg (.loop (loopAt Tryz.f78 4)) ⟨σ, [], 26⟩).bind K) := by
  intro m
  induction m with
  | zero =>
    intro i σ hi s0 s1 s12 s13 hK hR
    have h0 : ¬ (i < (a.getD []).length) := by omega
    rw [Wloop]
    conv => arg 1; arg 1; arg 1; simp [loopAt, loopIn, headId, Tryz.f78, s0, s1, s12, s13, h0]
    exact hK _ (by rw [List.drop_eq_nil_of_le (by omega), List.drop_eq_nil_of_le (by omega)])
  | succ m ih =>
    intro i σ hi s0 s1 s12 s13 hK hR
    have ha : i < (a.getD []).length := by omega
    have hb : i < (b.getD []).length := by omega
    have hlt : decide (i < (a.getD []).length) = true := dt ha
    have xa := idxD_nat .i64 ha; have xb := idxD_nat .i64 hb
    have ga : (a.getD [])[i]? = some (a.getD [])[i] := List.getElem?_eq_getElem ha
    have gb : (b.getD [])[i]? = some (b.getD [])[i] := List.getElem?_eq_getElem hb
    have hw : IntKind.i64.wrap ((i : Int) + 1) = ((i + 1 : Nat) : Int) := wr (by omega) (by omega)
    have hd := dr78_6
    simp [opsAt, opsIn, Tryz.f78] at hd
    have hdw := Wdraw0 hd
    clear hd
    cases k : decide ((a.getD [])[i] = (b.getD [])[i])
    · skip
      have hne : (a.getD []).drop i ≠ (b.getD []).drop i := fun h => (of_decide_eq_false k) ((drop_eq_iff ha hb).1 h).1
      generalize (a.getD [])[i] = u at *
      generalize (b.getD [])[i] = v at *
      rw [Wloop]
      conv => arg 1; arg 1; arg 1; simp [loopAt, loopIn, headId, Tryz.f78, s0, s1, s12, s13, hlt, xa, xb, ga, gb, hdw, k]
      exact hR _ hne (by simp)
    · have e := of_decide_eq_true k
      have hK' : ∀ σ', (a.getD []).drop (i + 1) = (b.getD []).drop (i + 1) → Q (K (.exit 0, ⟨σ', [], 26⟩)) := fun σ' h => hK σ' ((drop_eq_iff ha hb).2 ⟨e, h⟩)
      have hR' : ∀ σ', (a.getD []).drop (i + 1) ≠ (b.getD []).drop (i + 1) → σ' 4 = .bool false → Q (K (.ret, ⟨σ', [], 26⟩)) := fun σ' h => hR σ' (fun h2 => h ((drop_eq_iff ha hb).1 h2).2)
      clear hK hR
      generalize (a.getD [])[i] = u at *
      generalize (b.getD [])[i] = v at *
      rw [Wloop]
      conv => arg 1; arg 1; arg 1; simp [loopAt, loopIn, headId, Tryz.f78, s0, s1, s12, s13, hlt, xa, xb, ga, gb, hdw, k, hw]
      rw [Option.bind_some, loopK_normal]
      exact ih (i + 1) _ (by omega) (by simp [s0]) (by simp [s1]) (by simp [s12]) (by simp) hK' hR'
theorem eqI_spec (a b : Option (List Int)) (hs : (a.getD []).length < 2 ^ 62) : fnc Tryz.prog cfg R 78 [encL 1 I a, encL 1 I b] = some (.bool (decide (a.getD [] = b.getD []))) := by
  rw [fnc_at rfl, body_eq Tryz.func78 rfl rfl]
  cases k : decide ((a.getD []).length = (b.getD []).length)
  · have e : decide (a.getD [] = b.getD []) = false := df (fun h => (of_decide_eq_false k) (by rw [h]))
    rw [e]
    have k' : decide (((a.getD []).length : Int) = ((b.getD []).length : Int)) = false := df (by have := of_decide_eq_false k; omega)
    simp [argsσ, Vm.results, k, k']
  · have hl := of_decide_eq_true k
    have k' : decide (((a.getD []).length : Int) = ((b.getD []).length : Int)) = true := dt (by omega)
    simp [argsσ, k, k', Option.bind_assoc]
    refine eqI_loop a b hl hs _ (fun o => o = some _) (a.getD []).length 0 _ (by omega) (by simp [argsσ]) (by simp [argsσ]) (by simp) (by simp) ?_ ?_
    · intro σ' h
      simp only [List.drop_zero] at h
      have e : decide (a.getD [] = b.getD []) = true := dt h
      simp [Vm.results, e, h]
    · intro σ' h t4
      simp only [List.drop_zero] at h
      simp [Vm.results, t4, h]
theorem pin_spec (n a b : Int) : fnc Tryz.prog cfg R 67 [I n, I a, I b] = some (.bool (decide (a ≤ n) && decide (n ≤ b))) := by
  rw [fnc_at rfl, body_eq Tryz.func67 rfl rfl]
  cases k1 : decide (a ≤ n)
  · simp [argsσ, Vm.results, k1]
  · simp [argsσ, Vm.results, k1]
/-- the function value of an iterator -/
def vclo (b : Option (List Int)) : D := .clo (.func 120) [] [.fptr 1 [encL 1 I b] 0 0]
theorem fnc_ext {run : Run} {f : FuncId} {g : List D → Option D} (h : cfg.ext f = some g) (args : List D) : fnc Tryz.prog cfg run f args = g args := by unfold fnc; rw [h]
theorem vals_spec (b : Option (List Int)) : fnc Tryz.prog cfg R 99 [encL 1 I b] = some (vclo b) := by
  rw [fnc_ext rfl]
  cases b <;> rfl
theorem ints_map : ∀ l : List Int, intsOfD (l.map I) = some l
  | [] => rfl
  | x :: l => by simp [intsOfD, ints_map l]
theorem sort_spec (b : Option (List Int)) (hl : (b.getD []).length ≤ 2 ^ 40) : ∃ o : Option (List Int), fnc Tryz.prog cfg R 98 [vclo b] = some (encL 1 I o) ∧ o.getD [] = isortZ (b.getD []) := by
  rw [fnc_ext rfl]
  cases b with
  | none => exact ⟨none, rfl, rfl⟩
  | some l =>
    by_cases h : l = []
    · subst h; exact ⟨none, rfl, rfl⟩
    · refine ⟨some (isortZ l), ?_, rfl⟩
      have hl' : (l.map I).length ≤ 2 ^ 40 := by simpa using hl
      show sortedG _ [.clo (.func 120) [] [.fptr 1 [.sl 1 (l.map I) false] 0 0]] = _
      unfold sortedG
      simp only
      rw [if_pos ⟨trivial, hl'⟩, ints_map, Option.map_some, if_neg h]
      rfl
@[reducible] def encX (x : Fx) : D := frC x.f (encL 2 encV x.a) (encL 2 encV x.b) (encL 6 encSlt x.z)
@[reducible] def encCe (c : Ce) : D := .agg [I c.gen, .bool c.used, I c.x.f.fn, I c.x.f.pc, encL 2 encV c.x.a, encL 2 encV c.x.b, encL 6 encSlt c.x.z, I c.x.f.seed, I c.x.f.spawned, I c.x.f.draws, I c.x.f.state, I c.x.f.wait, I c.x.f.out.trap, I c.x.f.out.v.re, I c.x.f.out.v.im, I c.x.f.up.ag, I c.x.f.up.gen, I c.x.f.upSlot]
@[reducible] def pnC (C F : D) (m : Int) : D := .agg [C, F, I m]
@[simp] theorem ixL_cell (b : Option (List Ce)) (i : D) : indexAddrD Tryz.prog 29 (encL 18 encCe b) i = (idxD (b.getD []).length i).map fun i => .fptr 18 ((b.getD []).map encCe) i 0 := ixL un29 sz73 b i
theorem cl_cells : ∀ l : List Ce, cleans (l.map encCe) = true
  | [] => rfl
  | x :: l => by simp [cl_cells l]
/-- a slice, as it leaves -/
def oS {α : Type} (l : List α) : D → Option (List α)
  | .snil => none
  | _ => some l
theorem IsS.expO {H : List Ob} {α : Type} {z : Nat} {e : α → D} {l : List α} {d : D} (h : IsS H z (l.map e) d) (hc : cleans (l.map e) = true) : exp1 H d = some (encL z e (oS l d)) ∧ (oS l d).getD [] = l := by
  rcases h with ⟨rfl, hx⟩ | ⟨rfl, hx⟩ | ⟨id, ver, rest, rfl, hh⟩
  · have : l = [] := by simpa using hx
    subst this; exact ⟨by simp [oS, encL], rfl⟩
  · have : l = [] := by simpa using hx
    subst this; exact ⟨by simp [oS, encL], rfl⟩
  · refine ⟨?_, rfl⟩
    rw [exp_own, elsOf_own, hh, Option.bind_some, if_pos ⟨rfl, rfl, by simp⟩]
    simp [ownK_clean _ _ _ hc, oS, encL]
theorem IsS.pushD {H : List Ob} {z : Nat} {xs : List D} {d : D} (h : IsS H z xs d) (b : Nat) (vs : List D) (hl : (xs.length + vs.length) * b ≤ 2 ^ 47) :
    ∃ d' H', apK b z H d xs vs = some (d', H') ∧ IsS H' z (xs ++ vs) d' ∧ (∀ i, At d' i → At d i ∨ (H.length ≤ i ∧ i < H'.length)) ∧ (∀ i, i < H.length → ¬ At d i → H'[i]? = H[i]?) ∧ H.length ≤ H'.length := by
  rw [apK_ok hl]
  by_cases h0 : vs = []
  · subst h0
    rw [apN_nil, List.append_nil]
    exact ⟨d, H, rfl, h, fun i hi => .inl hi, fun i _ _ => rfl, Nat.le_refl _⟩
  have hne : vs.length ≠ 0 := fun e => h0 (List.length_eq_zero_iff.1 e)
  rcases h with ⟨rfl, rfl⟩ | ⟨rfl, rfl⟩ | ⟨id, ver, rest, rfl, hh⟩
  · rw [apN_snil' hne]
    refine ⟨_, _, rfl, .inr (.inr ⟨H.length, 0, [], by simp, by simp [newOb]⟩), fun i hi => .inr ?_, fun i hi _ => ?_, by simp [newOb]⟩
    · rw [at_own] at hi; subst hi; simp [newOb]
    · unfold newOb; rw [get_lt hi]
  · rw [apN_sl' hne]
    refine ⟨_, _, rfl, .inr (.inr ⟨H.length, 0, [], by simp, by simp [newOb]⟩), fun i hi => .inr ?_, fun i hi _ => ?_, by simp [newOb]⟩
    · rw [at_own] at hi; subst hi; simp [newOb]
    · unfold newOb; rw [get_lt hi]
  · have hid := (List.getElem?_eq_some_iff.1 hh).1
    rw [apN_own' hne, hh, Option.bind_some, if_pos (by simp)]
    refine ⟨_, _, rfl, .inr (.inr ⟨id, ver + 1, [], by simp, ?_⟩), fun i hi => .inl hi, fun i _ hi => ?_, by simp⟩
    · rw [List.getElem?_set_self hid]; simp
    · rw [at_own] at hi
      rw [List.getElem?_set_ne hi]
theorem sgx (H : List Ob) (o o' : Ob) : (H ++ [o]).set H.length o' = H ++ [o'] := by simp
theorem pmay_loop (cs : Option (List Ce)) (fr : Option (List Int)) (m : Int) (hs : (cs.getD []).length ≤ 2 ^ 30) {X : Type} (K : Ex × St → Option X) (Q : Option X → Prop) : ∀ (rest : List Ce) (i : Nat) (σ : Nat → D) (H : List Ob) (L : D) (pre : List Int), (cs.getD []).drop i = rest → pre.length ≤ i →
    σ 1 = .ptr 0 0 0 0 → σ 3 = L → σ 19 = encL 18 encCe cs → σ 20 = I (cs.getD []).length → σ 21 = I i → 1 ≤ H.length → H[0]? = some ⟨0, 3, [pnC (encL 18 encCe cs) (encL 1 I fr) m], 0⟩ → IsS H 1 (pre.map I) L → (∀ j, At L j → 1 ≤ j) →
    (∀ σ' H' L', rest.all genOk = true → σ' 1 = .ptr 0 0 0 0 → σ' 3 = L' → H'[0]? = some ⟨0, 3, [pnC (encL 18 encCe cs) (encL 1 I fr) m], 0⟩ → IsS H' 1 ((pre ++ freeOf i rest).map I) L' → Q (K (.exit 0, ⟨σ', H', 44⟩))) →
    (∀ σ' H', rest.all genOk = false → σ' 2 = .bool false → Q (K (.ret, ⟨σ', H', 44⟩))) →
    Q ((W Tryz.prog cfg (.loop (loopAt Tryz.f68 5)) ⟨σ, H, 44⟩).bind K)
  | [], i, σ, H, L, pre, hd, hp, s1, s3, s19, s20, s21, hH, g0, iL, aL, hK, hR => by
    have hi : ¬ (i < (cs.getD []).length) := by have := congrArg List.length hd; simp at this; omega
    rw [Wloop]
    conv => arg 1; arg 1; arg 1; simp [loopAt, loopIn, headId, Tryz.f68, s1, s3, s19, s20, s21, hi]
    exact hK _ H L rfl (by simp [s1]) (by simp [s3]) g0 (by simpa [freeOf] using iL)
  | c :: rest, i, σ, H, L, pre, hd, hp, s1, s3, s19, s20, s21, hH, g0, iL, aL, hK, hR => by
    obtain ⟨hg1, hd1, hi⟩ := drop_get hd
    have hlt : decide (i < (cs.getD []).length) = true := dt hi
    have hx := idxD_nat .i64 hi
    have hw : IntKind.i64.wrap ((i : Int) + 1) = ((i + 1 : Nat) : Int) := wr (by omega) (by omega)
    have hin := pin_spec c.gen 0 4294967295
    rw [show (decide (0 ≤ c.gen) && decide (c.gen ≤ 4294967295)) = genOk c from rfl] at hin
    have q0 : ∀ o : Ob, (H ++ [o])[0]? = some ⟨0, 3, [pnC (encL 18 encCe cs) (encL 1 I fr) m], 0⟩ := fun o => by rw [get_lt (by omega), g0]
    have ql : ∀ o : Ob, (H ++ [o])[H.length]? = some o := fun o => by simp
    have qs := sgx H
    rw [List.all_cons] at hK hR
    cases kg : genOk c
    case false =>
      rw [kg] at hin hR
      rw [Wloop]
      conv => arg 1; arg 1; arg 1; simp [loopAt, loopIn, headId, Tryz.f68, s1, s3, s19, s20, s21, hlt, hx, hg1, hin, ql, qs, -getElem?_pos]
      exact hR _ _ rfl (by simp)
    rw [kg] at hin hR hK
    rw [Bool.true_and] at hK hR
    cases ku : c.used
    case true =>
      have hf : freeOf i (c :: rest) = freeOf (i + 1) rest := by
        rw [show freeOf i (c :: rest) = (if c.used = true then freeOf (i + 1) rest else (i : Int) :: freeOf (i + 1) rest) from rfl, if_pos ku]
      rw [hf] at hK
      rw [Wloop]
      conv => arg 1; arg 1; arg 1; simp [loopAt, loopIn, headId, Tryz.f68, s1, s3, s19, s20, s21, hlt, hx, hg1, hin, ql, qs, ku, hw, -getElem?_pos]
      rw [Option.bind_some, loopK_normal]
      exact pmay_loop cs fr m hs K Q rest (i + 1) _ _ L pre hd1 (by omega) (by simp [s1]) (by simp [s3]) (by simp [s19]) (by simp [s20]) (by simp) (by simp) (q0 _) (iL.app _) aL hK hR
    have hf : freeOf i (c :: rest) = (i : Int) :: freeOf (i + 1) rest := by
      rw [show freeOf i (c :: rest) = (if c.used = true then freeOf (i + 1) rest else (i : Int) :: freeOf (i + 1) rest) from rfl, if_neg (by rw [ku]; decide)]
    rw [hf] at hK
    obtain ⟨e, he⟩ : ∃ e : D, encCe c = e := ⟨_, rfl⟩
    obtain ⟨L', H', eA, iA, aA, pA, lA⟩ := (iL.app [⟨0, 18, [encCe c], 0⟩]).pushD 8 [I (i : Int)] (by simp; omega)
    have es := (iL.app [⟨0, 18, [encCe c], 0⟩]).els
    have nA := iA.one; have cA := iA.cells
    have nL := iL.one; have cL := iL.cells
    have lA' : H.length + 1 ≤ H'.length := by simpa using lA
    have r0 : H'[0]? = some ⟨0, 3, [pnC (encL 18 encCe cs) (encL 1 I fr) m], 0⟩ := by rw [pA 0 (by simp) (fun h => by have := aL 0 h; omega), q0]
    have aA' : ∀ j, At L' j → 1 ≤ j := fun j hj => by
      rcases aA j hj with h | h
      · exact aL j h
      · simp at h; omega
    have hsh : encCe c = .agg [I c.gen, .bool false, I c.x.f.fn, I c.x.f.pc, encL 2 encV c.x.a, encL 2 encV c.x.b, encL 6 encSlt c.x.z, I c.x.f.seed, I c.x.f.spawned, I c.x.f.draws, I c.x.f.state, I c.x.f.wait, I c.x.f.out.trap, I c.x.f.out.v.re, I c.x.f.out.v.im, I c.x.f.up.ag, I c.x.f.up.gen, I c.x.f.upSlot] := by rw [← ku]
    rw [hsh] at eA es
    rw [Wloop]
    conv => arg 1; arg 1; arg 1; simp [loopAt, loopIn, headId, Tryz.f68, s1, s3, s19, s20, s21, hlt, hx, hg1, hin, ql, qs, ku, hw, es, eA, nA, cA, nL, cL, -List.map_append, -getElem?_pos]
    rw [Option.bind_some, loopK_normal]
    exact pmay_loop cs fr m hs K Q rest (i + 1) _ _ L' (pre ++ [(i : Int)]) hd1 (by simp; omega) (by simp [s1]) (by simp) (by simp [s19]) (by simp [s20]) (by simp) (by omega) r0 (by rw [List.map_append]; exact iA) aA' (by simpa using hK) hR
theorem pmay_spec (cs : Option (List Ce)) (fr : Option (List Int)) (m : Int) (hs : (cs.getD []).length ≤ 2 ^ 30) (hf : (fr.getD []).length ≤ 2 ^ 30) : fnc Tryz.prog cfg R 68 [pnC (encL 18 encCe cs) (encL 1 I fr) m] = some (.bool (mayPn ⟨cs.getD [], fr.getD [], m⟩)) := by
  have hin := pin_spec m 1 1024
  have hhd : headPn ⟨cs.getD [], fr.getD [], m⟩ = (decide (1 ≤ m) && decide (m ≤ 1024) && decide (((cs.getD []).length : Int) ≤ m)) := rfl
  unfold mayPn
  rw [hhd, fnc_at rfl, body_eq Tryz.func68 rfl rfl]
  cases k1 : (decide (1 ≤ m) && decide (m ≤ 1024))
  case false =>
    rw [k1] at hin
    simp [argsσ, Vm.results, hin]
  rw [k1] at hin
  cases k2 : decide (((cs.getD []).length : Int) ≤ m)
  case false =>
    have k2' : decide (m < ((cs.getD []).length : Int)) = true := dt (by have := of_decide_eq_false k2; omega)
    simp [argsσ, Vm.results, hin, k2']
  have k2' : decide (m < ((cs.getD []).length : Int)) = false := df (by have := of_decide_eq_true k2; omega)
  obtain ⟨Q, hQ⟩ : ∃ Q : Option D → Prop, Q = fun o => o = some (.bool (true && true && ((cs.getD []).all genOk && decide (freeOf 0 (cs.getD []) = isortZ (fr.getD []))))) := ⟨_, rfl⟩
  suffices h : Q ((body Tryz.prog R 68 [pnC (encL 18 encCe cs) (encL 1 I fr) m] []).bind finK) by
    rw [hQ] at h
    rw [body_eq Tryz.func68 rfl rfl] at h
    exact h
  rw [body_eq Tryz.func68 rfl rfl]
  conv => arg 1; simp [argsσ, hin, k2', Option.bind_assoc]
  refine pmay_loop cs fr m hs _ Q (cs.getD []) 0 _ _ .snil [] rfl (by simp) (by simp) (by simp) (by simp) (by simp) (by simp) (by simp) (by simp) (.inl ⟨rfl, rfl⟩) (fun j h => absurd h (at_snil j)) ?_ ?_
  · intro σ' H' L' hg t1 t3 g0 iL
    rw [List.nil_append] at iL
    have hV := vals_spec fr
    obtain ⟨o, hS, ho⟩ := sort_spec fr (by omega)
    have exv : ∀ h, exp1 h (vclo fr) = some (vclo fr) := fun h => exp_clean (by simp [vclo, clean]) (by simp [vclo, lz])
    have hcv : clean (vclo fr) = true := by simp [vclo, clean]
    obtain ⟨x1, y1⟩ := iL.expO (cl_ints _)
    have nL := iL.one
    have fl : (freeOf 0 (cs.getD [])).length < 2 ^ 62 := by
      have : ∀ (l : List Ce) (i : Nat), (freeOf i l).length ≤ l.length := fun l => by
        induction l with
        | nil => intro i; simp [freeOf]
        | cons c l ih =>
          intro i
          unfold freeOf
          have := ih (i + 1)
          split <;> simp <;> omega
      have := this (cs.getD []) 0
      omega
    have hE := eqI_spec (oS (freeOf 0 (cs.getD [])) L') o (by rw [y1]; exact fl)
    rw [y1, ho] at hE
    rw [hQ, hg]
    simp [t1, t3, g0, hV, hS, exv, hcv, x1, nL, hE, retK_flat, Vm.results, -getElem?_pos]
  · intro σ' H' hg t2
    rw [hQ, hg]
    simp [t2, Vm.results]
/-! the document -/
theorem count_loop (b : Option (List Int)) (n : Int) (hs : (b.getD []).length < 2 ^ 62) {X : Type} (K : Ex × St → Option X) (Q : Option X → Prop) : ∀ (rest : List Int) (i k : Nat) (σ : Nat → D), (b.getD []).drop i = rest → k ≤ i → σ 0 = encL 1 I b → σ 1 = I n → σ 5 = I k → σ 6 = I i →
    (∀ σ', σ' 5 = I ((k + rest.count n : Nat) : Int) → Q (K (.exit 0, ⟨σ', [], 22⟩))) →
    Q ((W Tryz.prog cfg (.loop (loopAt Tryz.f85 3)) ⟨σ, [], 22⟩).bind K)
  | [], i, k, σ, hd, hk, s0, s1, s5, s6, hK => by
    have hi : ¬ (i < (b.getD []).length) := by have := congrArg List.length hd; simp at this; omega
    rw [Wloop]
    conv => arg 1; arg 1; arg 1; simp [loopAt, loopIn, headId, Tryz.f85, s0, s1, s5, s6, hi]
    exact hK _ (by simp [s5])
  | y :: rest, i, k, σ, hd, hk, s0, s1, s5, s6, hK => by
    obtain ⟨hg1, hd1, hi⟩ := drop_get hd
    have hlt : decide (i < (b.getD []).length) = true := dt hi
    have hx := idxD_nat .i64 hi
    have hw : IntKind.i64.wrap ((i : Int) + 1) = ((i + 1 : Nat) : Int) := wr (by omega) (by omega)
    have hw2 : IntKind.i64.wrap ((k : Int) + 1) = ((k + 1 : Nat) : Int) := wr (by omega) (by omega)
    cases k1 : decide (y = n)
    · have hc : (y :: rest).count n = rest.count n := by rw [List.count_cons, if_neg (by simpa using of_decide_eq_false k1)]; rfl
      rw [hc] at hK
      rw [Wloop]
      conv => arg 1; arg 1; arg 1; simp [loopAt, loopIn, headId, Tryz.f85, s0, s1, s5, s6, hlt, hx, hg1, k1, hw]
      rw [Option.bind_some, loopK_normal]
      exact count_loop b n hs K Q rest (i + 1) k _ hd1 (by omega) (by simp [s0]) (by simp [s1]) (by simp [s5]) (by simp) hK
    · have hc : (y :: rest).count n = rest.count n + 1 := by rw [List.count_cons, if_pos (by simpa using of_decide_eq_true k1)]
      rw [hc] at hK
      rw [Wloop]
      conv => arg 1; arg 1; arg 1; simp [loopAt, loopIn, headId, Tryz.f85, s0, s1, s5, s6, hlt, hx, hg1, k1, hw, hw2]
      rw [Option.bind_some, loopK_normal]
      exact count_loop b n hs K Q rest (i + 1) (k + 1) _ hd1 (by omega) (by simp [s0]) (by simp [s1]) (by simp) (by simp) (fun σ' h => hK σ' (by rw [h]; congr 2; omega))
theorem count_spec (b : Option (List Int)) (n : Int) (hs : (b.getD []).length < 2 ^ 62) : fnc Tryz.prog cfg R 85 [encL 1 I b, I n] = some (I ((b.getD []).count n : Nat)) := by
  rw [fnc_at rfl, body_eq Tryz.func85 rfl rfl]
  simp [argsσ, Option.bind_assoc]
  refine count_loop b n hs _ (fun o => o = some _) (b.getD []) 0 0 _ rfl (Nat.le_refl _) (by simp [argsσ]) (by simp [argsσ]) (by simp) (by simp) ?_
  intro σ' h
  simp [h, Vm.results]
theorem rmay_loop12 (cs : Option (List Ce)) (fr : Option (List Int)) (m : Int) (hs : (cs.getD []).length ≤ 2 ^ 30) (hf : (fr.getD []).length ≤ 2 ^ 30) {X : Type} (K : Ex × St → Option X) (Q : Option X → Prop) : ∀ (rest : List Ce) (i k : Nat) (σ : Nat → D), (cs.getD []).drop i = rest → k ≤ i →
    σ 1 = .ptr 0 0 0 0 → σ 3 = I k → σ 4 = I i →
    (∀ σ', okR (fr.getD []) i rest = true → σ' 1 = .ptr 0 0 0 0 → σ' 3 = I ((k + (freeOf i rest).length : Nat) : Int) → Q (K (.exit 0, ⟨σ', [⟨0, 3, [pnC (encL 18 encCe cs) (encL 1 I fr) m], 0⟩], 67⟩))) →
    (∀ σ', okR (fr.getD []) i rest = false → σ' 2 = .bool false → Q (K (.ret, ⟨σ', [⟨0, 3, [pnC (encL 18 encCe cs) (encL 1 I fr) m], 0⟩], 67⟩))) →
    Q ((W Tryz.prog cfg (.loop (loopAt Tryz.f55 5)) ⟨σ, [⟨0, 3, [pnC (encL 18 encCe cs) (encL 1 I fr) m], 0⟩], 67⟩).bind K)
  | [], i, k, σ, hd, hk, s1, s3, s4, hK, hR => by
    have hi : ¬ (i < (cs.getD []).length) := by have := congrArg List.length hd; simp at this; omega
    rw [Wloop]
    conv => arg 1; arg 1; arg 1; simp [loopAt, loopIn, headId, Tryz.f55, s1, s3, s4, hi]
    exact hK _ rfl (by simp [s1]) (by simp [s3, freeOf])
  | c :: rest, i, k, σ, hd, hk, s1, s3, s4, hK, hR => by
    obtain ⟨hg1, hd1, hi⟩ := drop_get hd
    have hlt : decide (i < (cs.getD []).length) = true := dt hi
    have hx := idxD_nat .i64 hi
    have hw : IntKind.i64.wrap ((i : Int) + 1) = ((i + 1 : Nat) : Int) := wr (by omega) (by omega)
    have hw2 : IntKind.i64.wrap ((k : Int) + 1) = ((k + 1 : Nat) : Int) := wr (by omega) (by omega)
    have hw3 : IntKind.i64.wrap ((k : Int) + 0) = (k : Int) := by rw [Int.add_zero]; exact wr (by omega) (by omega)
    have hw4 : IntKind.i64.wrap (k : Int) = (k : Int) := wr (by omega) (by omega)
    have hC := count_spec fr (i : Int) (by omega)
    have hok : okR (fr.getD []) i (c :: rest) = (genOk c && decide (((fr.getD []).count (i : Int) : Int) = if c.used = true then 0 else 1) && okR (fr.getD []) (i + 1) rest) := rfl
    rw [hok] at hK hR
    have hge : genOk c = (decide (0 ≤ c.gen) && decide (c.gen ≤ 4294967295)) := rfl
    cases ku : c.used
    · have hfe : freeOf i (c :: rest) = (i : Int) :: freeOf (i + 1) rest := by
        rw [show freeOf i (c :: rest) = (if c.used = true then freeOf (i + 1) rest else (i : Int) :: freeOf (i + 1) rest) from rfl, if_neg (by rw [ku]; decide)]
      rw [hfe, if_neg (by rw [ku]; decide)] at hK
      rw [if_neg (by rw [ku]; decide)] at hR
      cases k1 : decide (c.gen < 0)
      case true =>
        rw [hge, show decide (0 ≤ c.gen) = false from df (by have := of_decide_eq_true k1; omega)] at hR
        rw [Wloop]
        conv => arg 1; arg 1; arg 1; simp [loopAt, loopIn, headId, Tryz.f55, s1, s3, s4, hlt, hx, hg1, ku, hw2, k1]
        exact hR _ rfl (by simp)
      cases k2 : decide (4294967296 ≤ c.gen)
      case true =>
        rw [hge, show decide (c.gen ≤ 4294967295) = false from df (by have := of_decide_eq_true k2; omega), Bool.and_false] at hR
        rw [Wloop]
        conv => arg 1; arg 1; arg 1; simp [loopAt, loopIn, headId, Tryz.f55, s1, s3, s4, hlt, hx, hg1, ku, hw2, k1, k2]
        exact hR _ rfl (by simp)
      have hgt : genOk c = true := by rw [hge, show decide (0 ≤ c.gen) = true from dt (by have := of_decide_eq_false k1; omega), show decide (c.gen ≤ 4294967295) = true from dt (by have := of_decide_eq_false k2; omega)]; rfl
      rw [hgt] at hK hR
      obtain ⟨q, hq⟩ : ∃ q : Nat, (fr.getD []).count (i : Int) = q := ⟨_, rfl⟩
      rw [hq] at hK hR hC
      cases k3 : decide (q = 1)
      · have k3' : decide ((q : Int) = 1) = false := df (by have := of_decide_eq_false k3; omega)
        rw [k3'] at hR
        rw [Wloop]
        conv => arg 1; arg 1; arg 1; simp [loopAt, loopIn, headId, Tryz.f55, s1, s3, s4, hlt, hx, hg1, ku, hw2, k1, k2, hC, k3, k3']
        exact hR _ rfl (by simp)
      · have k3' : decide ((q : Int) = 1) = true := dt (by have := of_decide_eq_true k3; omega)
        rw [k3'] at hK hR
        simp only [Bool.true_and] at hK hR
        rw [Wloop]
        conv => arg 1; arg 1; arg 1; simp [loopAt, loopIn, headId, Tryz.f55, s1, s3, s4, hlt, hx, hg1, ku, hw, hw2, k1, k2, hC, k3, k3']
        rw [Option.bind_some, loopK_normal]
        exact rmay_loop12 cs fr m hs hf K Q rest (i + 1) (k + 1) _ hd1 (by omega) (by simp [s1]) (by simp) (by simp) (fun σ' h1 h2 h3 => hK σ' h1 h2 (by rw [h3]; congr 2; simp; omega)) hR
    · have hfe : freeOf i (c :: rest) = freeOf (i + 1) rest := by
        rw [show freeOf i (c :: rest) = (if c.used = true then freeOf (i + 1) rest else (i : Int) :: freeOf (i + 1) rest) from rfl, if_pos ku]
      rw [hfe, if_pos ku] at hK
      rw [if_pos ku] at hR
      cases k1 : decide (c.gen < 0)
      case true =>
        rw [hge, show decide (0 ≤ c.gen) = false from df (by have := of_decide_eq_true k1; omega)] at hR
        rw [Wloop]
        conv => arg 1; arg 1; arg 1; simp [loopAt, loopIn, headId, Tryz.f55, s1, s3, s4, hlt, hx, hg1, ku, hw3, hw4, k1]
        exact hR _ rfl (by simp)
      cases k2 : decide (4294967296 ≤ c.gen)
      case true =>
        rw [hge, show decide (c.gen ≤ 4294967295) = false from df (by have := of_decide_eq_true k2; omega), Bool.and_false] at hR
        rw [Wloop]
        conv => arg 1; arg 1; arg 1; simp [loopAt, loopIn, headId, Tryz.f55, s1, s3, s4, hlt, hx, hg1, ku, hw3, hw4, k1, k2]
        exact hR _ rfl (by simp)
      have hgt : genOk c = true := by rw [hge, show decide (0 ≤ c.gen) = true from dt (by have := of_decide_eq_false k1; omega), show decide (c.gen ≤ 4294967295) = true from dt (by have := of_decide_eq_false k2; omega)]; rfl
      rw [hgt] at hK hR
      obtain ⟨q, hq⟩ : ∃ q : Nat, (fr.getD []).count (i : Int) = q := ⟨_, rfl⟩
      rw [hq] at hK hR hC
      cases k3 : decide (q = 0)
      · have k3' : decide ((q : Int) = 0) = false := df (by have := of_decide_eq_false k3; omega)
        rw [k3'] at hR
        rw [Wloop]
        conv => arg 1; arg 1; arg 1; simp [loopAt, loopIn, headId, Tryz.f55, s1, s3, s4, hlt, hx, hg1, ku, hw3, hw4, k1, k2, hC, k3, k3']
        exact hR _ rfl (by simp)
      · have k3' : decide ((q : Int) = 0) = true := dt (by have := of_decide_eq_true k3; omega)
        rw [k3'] at hK hR
        simp only [Bool.true_and] at hK hR
        rw [Wloop]
        conv => arg 1; arg 1; arg 1; simp [loopAt, loopIn, headId, Tryz.f55, s1, s3, s4, hlt, hx, hg1, ku, hw, hw3, hw4, k1, k2, hC, k3, k3']
        rw [Option.bind_some, loopK_normal]
        exact rmay_loop12 cs fr m hs hf K Q rest (i + 1) k _ hd1 (by omega) (by simp [s1]) (by simp) (by simp) (fun σ' h1 h2 h3 => hK σ' h1 h2 h3) hR
theorem rmay_spec (cs : Option (List Ce)) (fr : Option (List Int)) (m : Int) (hs : (cs.getD []).length ≤ 2 ^ 30) (hf : (fr.getD []).length ≤ 2 ^ 30) : fnc Tryz.prog cfg R 55 [pnC (encL 18 encCe cs) (encL 1 I fr) m] = some (.bool (mayPn ⟨cs.getD [], fr.getD [], m⟩)) := by
  have hhd : headPn ⟨cs.getD [], fr.getD [], m⟩ = (decide (1 ≤ m) && decide (m ≤ 1024) && decide (((cs.getD []).length : Int) ≤ m)) := rfl
  have hmy : mayPn ⟨cs.getD [], fr.getD [], m⟩ = (headPn ⟨cs.getD [], fr.getD [], m⟩ && ((cs.getD []).all genOk && decide (freeOf 0 (cs.getD []) = isortZ (fr.getD [])))) := rfl
  rw [hmy, ← okR_eq, hhd, fnc_at rfl, body_eq Tryz.func55 rfl rfl]
  cases k1 : decide (1 ≤ m)
  case false =>
    have k1' : decide (m < 1) = true := dt (by have := of_decide_eq_false k1; omega)
    simp [argsσ, Vm.results, k1']
  have k1' : decide (m < 1) = false := df (by have := of_decide_eq_true k1; omega)
  cases k0 : decide (m ≤ 1024)
  case false =>
    have k0' : decide (1024 < m) = true := dt (by have := of_decide_eq_false k0; omega)
    simp [argsσ, Vm.results, k1', k0']
  have k0' : decide (1024 < m) = false := df (by have := of_decide_eq_true k0; omega)
  cases k2 : decide (((cs.getD []).length : Int) ≤ m)
  case false =>
    have k2' : decide (m < ((cs.getD []).length : Int)) = true := dt (by have := of_decide_eq_false k2; omega)
    simp [argsσ, Vm.results, k1', k0', k2']
  have k2' : decide (m < ((cs.getD []).length : Int)) = false := df (by have := of_decide_eq_true k2; omega)
  obtain ⟨Q, hQ⟩ : ∃ Q : Option D → Prop, Q = fun o => o = some (.bool (true && true && true && (okR (fr.getD []) 0 (cs.getD []) && decide ((fr.getD []).length = (freeOf 0 (cs.getD [])).length)))) := ⟨_, rfl⟩
  suffices h : Q ((body Tryz.prog R 55 [pnC (encL 18 encCe cs) (encL 1 I fr) m] []).bind finK) by
    rw [hQ] at h
    rw [body_eq Tryz.func55 rfl rfl] at h
    exact h
  rw [body_eq Tryz.func55 rfl rfl]
  conv => arg 1; simp [argsσ, k1', k0', k2', Option.bind_assoc]
  refine rmay_loop12 cs fr m hs hf _ Q (cs.getD []) 0 0 _ rfl (Nat.le_refl _) (by simp) (by simp) (by simp) ?_ ?_
  · intro σ' h1 t1 t3
    rw [Nat.zero_add] at t3
    have e : decide (((fr.getD []).length : Int) = ((freeOf 0 (cs.getD [])).length : Int)) = decide ((fr.getD []).length = (freeOf 0 (cs.getD [])).length) := by rw [decide_eq_decide]; omega
    rw [hQ, h1]
    simp [t1, t3, Vm.results, e]
  · intro σ' h1 t2
    rw [hQ, h1]
    simp [t2, Vm.results]
end Go.Proofs.YtifmjomfoilnnaaGreatW.Rg
