/- Frames, slices of one's own; equal frames. No conditions. -/
import Derived.Test.YtifmjomfoilnnaaGreatVmEB
set_option linter.unusedVariables false
set_option linter.unusedSimpArgs false
namespace Go.Proofs.YtifmjomfoilnnaaGreatW.Rg
open Go.Proofs.YtifmjomfoilnnaaGreatW.Vm Go.Proofs.YtifmjomfoilnnaaGreatW.Md
open Go Go.Proofs
@[reducible] def encV (v : Vl) : D := .agg [I v.re, I v.im]
theorem neq_val (s t : Operand) (x y : Vl) : binD Tryz.prog .neq 38 s t (encV x) (encV y) = some (.bool (!decide (x = y))) := by
  obtain ⟨a, b⟩ := x
  obtain ⟨c, d⟩ := y
  simp [binD, scal, eqD, ft38, scalsEq, scalEq]
  by_cases h1 : a = c <;> by_cases h2 : b = d <;> simp [h1, h2]
attribute [simp] stEl_some ldEl_some
theorem op_nilp {P : Program} {cfg : Cfg} {run : Run} (dst ty pos af g st x) : opD P cfg run ⟨dst, .nilCheck x, ty, pos, af, g⟩ st = (ev st.σ x).bind fun d => match d with | .ptr id ver i j => some (.ptr id ver i j, st.h) | .fptr z xs i j => some (.fptr z xs i j, st.h) | _ => none := by
  simp only [opD]; cases ev st.σ x with
  | none => rfl
  | some d => cases d <;> rfl
@[reducible] def encO (o : Ou) : D := .agg [I o.trap, I o.v.re, I o.v.im]
@[reducible] def encRf (o : Rf) : D := .agg [I o.ag, I o.gen]
@[reducible] def encSlt (s : Slt) : D := .agg [I s.state, I s.kid.ag, I s.kid.gen, I s.out.trap, I s.out.v.re, I s.out.v.im]
@[reducible] def frC (f : Fr) (S L Z : D) : D := .agg [I f.fn, I f.pc, S, L, Z, I f.seed, I f.spawned, I f.draws, I f.state, I f.wait, I f.out.trap, I f.out.v.re, I f.out.v.im, I f.up.ag, I f.up.gen, I f.upSlot]
/-- a slice that may be written and appended to -/
def IsS (H : List Ob) (z : Nat) (xs : List D) (d : D) : Prop :=
  (d = .snil ∧ xs = []) ∨ (d = .sl z [] true ∧ xs = []) ∨ ∃ id ver rest, d = .own z id ver 0 xs.length ∧ H[id]? = some ⟨ver, z, xs ++ rest, 0⟩
/-- its object -/
def At : D → Nat → Prop
  | .own _ id _ _ _, i => id = i
  | _, _ => False
@[simp] theorem at_snil (i) : ¬ At .snil i := id
@[simp] theorem at_sl (z xs t i) : ¬ At (.sl z xs t) i := id
@[simp] theorem at_own (z id v o l i) : At (.own z id v o l) i ↔ id = i := Iff.rfl
section
variable {H H' : List Ob} {z : Nat} {xs : List D} {d : D}
theorem IsS.one (h : IsS H z xs d) : d.one = true := by rcases h with ⟨rfl, _⟩ | ⟨rfl, _⟩ | ⟨id, ver, rest, rfl, _⟩ <;> simp
theorem IsS.cells (h : IsS H z xs d) : d.cells = [d] := by rcases h with ⟨rfl, _⟩ | ⟨rfl, _⟩ | ⟨id, ver, rest, rfl, _⟩ <;> simp
theorem IsS.len (h : IsS H z xs d) : lenS d = some xs.length := by rcases h with ⟨rfl, rfl⟩ | ⟨rfl, rfl⟩ | ⟨id, ver, rest, rfl, _⟩ <;> simp
theorem IsS.els (h : IsS H z xs d) : elsZ H z d = some xs := by
  rcases h with ⟨rfl, rfl⟩ | ⟨rfl, rfl⟩ | ⟨id, ver, rest, rfl, hh⟩
  · simp
  · simp
  · rw [elsZ_own, elsOf_own, hh, Option.bind_some, if_pos ⟨rfl, rfl, by simp⟩]; simp
theorem IsS.lt (h : IsS H z xs d) {i : Nat} (hi : At d i) : i < H.length := by
  rcases h with ⟨rfl, rfl⟩ | ⟨rfl, rfl⟩ | ⟨id, ver, rest, rfl, hh⟩
  · exact absurd hi (at_snil i)
  · exact absurd hi (at_sl _ _ _ i)
  · rw [at_own] at hi; subst hi; exact (List.getElem?_eq_some_iff.1 hh).1
theorem IsS.keep (h : IsS H z xs d) (hk : ∀ i, At d i → H'[i]? = H[i]?) : IsS H' z xs d := by
  rcases h with ⟨rfl, rfl⟩ | ⟨rfl, rfl⟩ | ⟨id, ver, rest, rfl, hh⟩
  · exact .inl ⟨rfl, rfl⟩
  · exact .inr (.inl ⟨rfl, rfl⟩)
  · exact .inr (.inr ⟨id, ver, rest, rfl, by rw [hk id rfl, hh]⟩)
theorem IsS.app (h : IsS H z xs d) (t : List Ob) : IsS (H ++ t) z xs d := h.keep fun i hi => get_lt (h.lt hi)
theorem IsS.set (h : IsS H z xs d) {r : Nat} (hr : ¬ At d r) (o : Ob) : IsS (H.set r o) z xs d := h.keep fun i hi => by
  rw [List.getElem?_set_ne]; rintro rfl; exact hr hi
theorem IsS.exp (h : IsS H z xs d) (hc : cleans xs = true) : ∃ o : Bool, exp1 H d = some (if o = true ∧ xs = [] then .snil else .sl z xs false) := by
  rcases h with ⟨rfl, rfl⟩ | ⟨rfl, rfl⟩ | ⟨id, ver, rest, rfl, hh⟩
  · exact ⟨true, by simp⟩
  · exact ⟨false, by simp⟩
  · refine ⟨false, ?_⟩
    rw [exp_own, elsOf_own, hh, Option.bind_some, if_pos ⟨rfl, rfl, by simp⟩]
    simp [ownK_clean _ _ _ hc]
end
theorem IsS.exp' {H : List Ob} {α : Type} {z : Nat} {e : α → D} {l : List α} {d : D} (h : IsS H z (l.map e) d) (hc : cleans (l.map e) = true) : ∃ o : Option (List α), exp1 H d = some (encL z e o) ∧ o.getD [] = l := by
  obtain ⟨b, hb⟩ := h.exp hc
  by_cases hq : b = true ∧ l.map e = []
  · rw [if_pos hq] at hb
    exact ⟨none, hb, by have := hq.2; simp at this; simp [this]⟩
  · rw [if_neg hq] at hb
    exact ⟨some l, hb, rfl⟩
theorem cl_vals : ∀ l : List Vl, cleans (l.map encV) = true
  | [] => rfl
  | x :: l => by simp [cl_vals l]
theorem cl_slts : ∀ l : List Slt, cleans (l.map encSlt) = true
  | [] => rfl
  | x :: l => by simp [cl_slts l]
theorem bq_vals : ∀ l : List Vl, beqs (l.map encV) (l.map encV) = true
  | [] => by simp
  | x :: l => by simp [bq_vals l]
theorem bq_slts : ∀ l : List Slt, beqs (l.map encSlt) (l.map encSlt) = true
  | [] => by simp
  | x :: l => by simp [bq_slts l]
/-- a copy of one's own -/
def Src (H : List Ob) (z : Nat) (xs : List D) (d : D) : Prop := (d = .snil ∧ xs = []) ∨ (∃ t, d = .sl z xs t) ∨ ∃ id ver off len, d = .own z id ver off len ∧ elsZ H z d = some xs
theorem gs0 {H : List Ob} {r : Nat} (h : r < H.length) (o : Ob) : (H.set r o)[r]? = some o := List.getElem?_set_self h
theorem gsA {H : List Ob} {r : Nat} (h : r < H.length) (o : Ob) (t : List Ob) : (H.set r o ++ t)[r]? = some o := by rw [get_lt (by simpa using h), gs0 h]
theorem stA {H : List Ob} {r : Nat} (h : r < H.length) (o : Ob) (t : List Ob) : (H ++ t).set r o = H.set r o ++ t := set_lt h o
theorem ssA {H : List Ob} {r : Nat} (h : r < H.length) (o o' : Ob) (t : List Ob) : (H.set r o ++ t).set r o' = H.set r o' ++ t := by rw [set_lt (by simpa using h), List.set_set]
@[reducible] def zF : D := .agg [I 0, I 0, .snil, .snil, .snil, I 0, I 0, I 0, I 0, I 0, I 0, I 0, I 0, I 0, I 0, I 0]
@[simp] theorem ixL_val (b : Option (List Vl)) (i : D) : indexAddrD Tryz.prog 24 (encL 2 encV b) i = (idxD (b.getD []).length i).map fun i => .fptr 2 ((b.getD []).map encV) i 0 := ixL un24 sz38 b i
@[simp] theorem ixL_slt (b : Option (List Slt)) (i : D) : indexAddrD Tryz.prog 58 (encL 6 encSlt b) i = (idxD (b.getD []).length i).map fun i => .fptr 6 ((b.getD []).map encSlt) i 0 := ixL un58 sz98 b i
theorem neq_slt (s t : Operand) (x y : Slt) : binD Tryz.prog .neq 98 s t (encSlt x) (encSlt y) = some (.bool (!decide (x = y))) := by
  obtain ⟨a, ⟨b, c⟩, ⟨d, ⟨e, g⟩⟩⟩ := x
  obtain ⟨a', ⟨b', c'⟩, ⟨d', ⟨e', g'⟩⟩⟩ := y
  simp only [binD, scal, eqD, ft98, scalsEq, scalEq]
  simp only [Option.map_some, if_true, Option.some.injEq, D.bool.injEq]
  rw [Bool.eq_iff_iff]
  simp only [Bool.not_eq_true', decide_eq_false_iff_not, Slt.mk.injEq, Rf.mk.injEq, Ou.mk.injEq, Vl.mk.injEq]
  simp
theorem eq_out (s t : Operand) (x y : Ou) : binD Tryz.prog .eql 40 s t (encO x) (encO y) = some (.bool (decide (x = y))) := by
  obtain ⟨d, ⟨e, g⟩⟩ := x
  obtain ⟨d', ⟨e', g'⟩⟩ := y
  simp only [binD, scal, eqD, ft40, scalsEq, scalEq]
  simp only [Option.map_some, if_true, Option.some.injEq, D.bool.injEq]
  rw [Bool.eq_iff_iff]
  simp
theorem eq_rf (s t : Operand) (x y : Rf) : binD Tryz.prog .eql 36 s t (encRf x) (encRf y) = some (.bool (decide (x = y))) := by
  obtain ⟨d, e⟩ := x
  obtain ⟨d', e'⟩ := y
  simp only [binD, scal, eqD, ft36, scalsEq, scalEq]
  simp only [Option.map_some, if_true, Option.some.injEq, D.bool.injEq]
  rw [Bool.eq_iff_iff]
  simp
theorem drop_eq_iff {α : Type} {la lb : List α} {i : Nat} (ha : i < la.length) (hb : i < lb.length) : la.drop i = lb.drop i ↔ la[i] = lb[i] ∧ la.drop (i + 1) = lb.drop (i + 1) := by
  rw [List.drop_eq_getElem_cons ha, List.drop_eq_getElem_cons hb, List.cons.injEq]
theorem values_loop (a b : Option (List Vl)) (hlen : (a.getD []).length = (b.getD []).length) (hs : (a.getD []).length < 2 ^ 62) {X : Type} (K : Ex × St → Option X) (Q : Option X → Prop) : ∀ (m i : Nat) (σ : Nat → D), i + m = (a.getD []).length →
    σ 0 = encL 2 encV a → σ 1 = encL 2 encV b → σ 5 = I i →
    (∀ σ', (a.getD []).drop i = (b.getD []).drop i → Q (K (.exit 0, ⟨σ', [], 26⟩))) → (∀ σ', (a.getD []).drop i ≠ (b.getD []).drop i → σ' 4 = .bool false → Q (K (.ret, ⟨σ', [], 26⟩))) →
    Q ((W Tryz.prog cfg (.loop (loopAt Tryz.f57 4)) ⟨σ, [], 26⟩).bind K) := by
  intro m
  induction m with
  | zero =>
    intro i σ hi s0 s1 s5 hK hR
    have h0 : ¬ (i < (a.getD []).length) := by omega
    rw [Wloop]
    conv => arg 1; arg 1; arg 1; simp [loopAt, loopIn, headId, Tryz.f57, s0, s1, s5, h0]
    exact hK _ (by rw [List.drop_eq_nil_of_le (by omega), List.drop_eq_nil_of_le (by omega)])
  | succ m ih =>
    intro i σ hi s0 s1 s5 hK hR
    have ha : i < (a.getD []).length := by omega
    have hb : i < (b.getD []).length := by omega
    have hlt : decide (i < (a.getD []).length) = true := dt ha
    have xa := idxD_nat .i64 ha; have xb := idxD_nat .i64 hb
    have ga : (a.getD [])[i]? = some (a.getD [])[i] := List.getElem?_eq_getElem ha
    have gb : (b.getD [])[i]? = some (b.getD [])[i] := List.getElem?_eq_getElem hb
    have hw : IntKind.i64.wrap ((i : Int) + 1) = ((i + 1 : Nat) : Int) := wr (by omega) (by omega)
    have hd := dr57_6
    simp [opsAt, opsIn, Tryz.f57] at hd
    have hdw := Wdraw0 hd
    clear hd
    have hq := fun s t => neq_val s t (a.getD [])[i] (b.getD [])[i]
    cases k : decide ((a.getD [])[i] = (b.getD [])[i])
    · rw [k] at hq
      have hne : (a.getD []).drop i ≠ (b.getD []).drop i := fun h => (of_decide_eq_false k) ((drop_eq_iff ha hb).1 h).1
      generalize (a.getD [])[i] = u at *
      generalize (b.getD [])[i] = v at *
      rw [Wloop]
      conv => arg 1; arg 1; arg 1; simp [loopAt, loopIn, headId, Tryz.f57, s0, s1, s5, hlt, xa, xb, ga, gb, hdw, hq]
      exact hR _ hne (by simp)
    · have e := of_decide_eq_true k
      rw [k] at hq
      have hK' : ∀ σ', (a.getD []).drop (i + 1) = (b.getD []).drop (i + 1) → Q (K (.exit 0, ⟨σ', [], 26⟩)) := fun σ' h => hK σ' ((drop_eq_iff ha hb).2 ⟨e, h⟩)
      have hR' : ∀ σ', (a.getD []).drop (i + 1) ≠ (b.getD []).drop (i + 1) → σ' 4 = .bool false → Q (K (.ret, ⟨σ', [], 26⟩)) := fun σ' h => hR σ' (fun h2 => h ((drop_eq_iff ha hb).1 h2).2)
      clear hK hR
      generalize (a.getD [])[i] = u at *
      generalize (b.getD [])[i] = v at *
      rw [Wloop]
      conv => arg 1; arg 1; arg 1; simp [loopAt, loopIn, headId, Tryz.f57, s0, s1, s5, hlt, xa, xb, ga, gb, hdw, hq, hw]
      rw [Option.bind_some, loopK_normal]
      exact ih (i + 1) _ (by omega) (by simp [s0]) (by simp [s1]) (by simp) hK' hR'
theorem values_spec (a b : Option (List Vl)) (hs : (a.getD []).length < 2 ^ 62) : fnc Tryz.prog cfg R 57 [encL 2 encV a, encL 2 encV b] = some (.bool (decide (a.getD [] = b.getD []))) := by
  rw [fnc_at rfl, body_eq Tryz.func57 rfl rfl]
  cases k : decide ((a.getD []).length = (b.getD []).length)
  · have e : decide (a.getD [] = b.getD []) = false := df (fun h => (of_decide_eq_false k) (by rw [h]))
    rw [e]
    have k' : decide (((a.getD []).length : Int) = ((b.getD []).length : Int)) = false := df (by have := of_decide_eq_false k; omega)
    simp [argsσ, Vm.results, k, k']
  · have hl := of_decide_eq_true k
    have k' : decide (((a.getD []).length : Int) = ((b.getD []).length : Int)) = true := dt (by omega)
    simp [argsσ, k, k', Option.bind_assoc]
    refine values_loop a b hl hs _ (fun o => o = some _) (a.getD []).length 0 _ (by omega) (by simp [argsσ]) (by simp [argsσ]) (by simp) ?_ ?_
    · intro σ' h
      simp only [List.drop_zero] at h
      have e : decide (a.getD [] = b.getD []) = true := dt h
      simp [Vm.results, e, h]
    · intro σ' h t4
      simp only [List.drop_zero] at h
      simp [Vm.results, t4, h]
theorem eqV_loop (a b : Option (List Vl)) (hlen : (a.getD []).length = (b.getD []).length) (hs : (a.getD []).length < 2 ^ 62) {X : Type} (K : Ex × St → Option X) (Q : Option X → Prop) : ∀ (m i : Nat) (σ : Nat → D), i + m = (a.getD []).length →
    σ 0 = encL 2 encV a → σ 1 = encL 2 encV b → σ 12 = I (a.getD []).length → σ 13 = I i →
    (∀ σ', (a.getD []).drop i = (b.getD []).drop i → Q (K (.exit 0, ⟨σ', [], 26⟩))) → (∀ σ', (a.getD []).drop i ≠ (b.getD []).drop i → σ' 4 = .bool false → Q (K (.ret, ⟨σ', [], 26⟩))) →
    Q ((W Tryz.prog cfg (.loop (loopAt Tryz.f103 4)) ⟨σ, [], 26⟩).bind K) := by
  intro m
  induction m with
  | zero =>
    intro i σ hi s0 s1 s12 s13 hK hR
    have h0 : ¬ (i < (a.getD []).length) := by omega
    rw [Wloop]
    conv => arg 1; arg 1; arg 1; simp [loopAt, loopIn, headId, Tryz.f103, s0, s1, s12, s13, h0]
    exact hK _ (by rw [List.drop_eq_nil_of_le (by omega), List.drop_eq_nil_of_le (by omega)])
  | succ m ih =>
    intro i σ hi s0 s1 s12 s13 hK hR
    have ha : i < (a.getD []).length := by omega
    have hb : i < (b.getD []).length := by omega
    have hlt : decide (i < (a.getD []).length) = true := dt ha
    have xa := idxD_nat .i64 ha; have xb := idxD_nat .i64 hb
    have ga : (a.getD [])[i]? = some (a.getD [])[i] := List.getElem?_eq_getElem ha
    have gb : (b.getD [])[i]? = some (b.getD [])[i] := List.getElem?_eq_getElem hb
    have hw : IntKind.i64.wrap ((i : Int) + 1) = ((i + 1 : Nat) : Int) := wr (by omega) (by omega)
    have hd := dr103_6
    simp [opsAt, opsIn, Tryz.f103] at hd
    have hdw := Wdraw0 hd
    clear hd
    have hq := fun s t => neq_val s t (a.getD [])[i] (b.getD [])[i]
    cases k : decide ((a.getD [])[i] = (b.getD [])[i])
    · rw [k] at hq
      have hne : (a.getD []).drop i ≠ (b.getD []).drop i := fun h => (of_decide_eq_false k) ((drop_eq_iff ha hb).1 h).1
      generalize (a.getD [])[i] = u at *
      generalize (b.getD [])[i] = v at *
      rw [Wloop]
      conv => arg 1; arg 1; arg 1; simp [loopAt, loopIn, headId, Tryz.f103, s0, s1, s12, s13, hlt, xa, xb, ga, gb, hdw, hq]
      exact hR _ hne (by simp)
    · have e := of_decide_eq_true k
      rw [k] at hq
      have hK' : ∀ σ', (a.getD []).drop (i + 1) = (b.getD []).drop (i + 1) → Q (K (.exit 0, ⟨σ', [], 26⟩)) := fun σ' h => hK σ' ((drop_eq_iff ha hb).2 ⟨e, h⟩)
      have hR' : ∀ σ', (a.getD []).drop (i + 1) ≠ (b.getD []).drop (i + 1) → σ' 4 = .bool false → Q (K (.ret, ⟨σ', [], 26⟩)) := fun σ' h => hR σ' (fun h2 => h ((drop_eq_iff ha hb).1 h2).2)
      clear hK hR
      generalize (a.getD [])[i] = u at *
      generalize (b.getD [])[i] = v at *
      rw [Wloop]
      conv => arg 1; arg 1; arg 1; simp [loopAt, loopIn, headId, Tryz.f103, s0, s1, s12, s13, hlt, xa, xb, ga, gb, hdw, hq, hw]
      rw [Option.bind_some, loopK_normal]
      exact ih (i + 1) _ (by omega) (by simp [s0]) (by simp [s1]) (by simp [s12]) (by simp) hK' hR'
theorem eqV_spec (a b : Option (List Vl)) (hs : (a.getD []).length < 2 ^ 62) : fnc Tryz.prog cfg R 103 [encL 2 encV a, encL 2 encV b] = some (.bool (decide (a.getD [] = b.getD []))) := by
  rw [fnc_at rfl, body_eq Tryz.func103 rfl rfl]
  cases k : decide ((a.getD []).length = (b.getD []).length)
  · have e : decide (a.getD [] = b.getD []) = false := df (fun h => (of_decide_eq_false k) (by rw [h]))
    rw [e]
    have k' : decide (((a.getD []).length : Int) = ((b.getD []).length : Int)) = false := df (by have := of_decide_eq_false k; omega)
    simp [argsσ, Vm.results, k, k']
  · have hl := of_decide_eq_true k
    have k' : decide (((a.getD []).length : Int) = ((b.getD []).length : Int)) = true := dt (by omega)
    simp [argsσ, k, k', Option.bind_assoc]
    refine eqV_loop a b hl hs _ (fun o => o = some _) (a.getD []).length 0 _ (by omega) (by simp [argsσ]) (by simp [argsσ]) (by simp) (by simp) ?_ ?_
    · intro σ' h
      simp only [List.drop_zero] at h
      have e : decide (a.getD [] = b.getD []) = true := dt h
      simp [Vm.results, e, h]
    · intro σ' h t4
      simp only [List.drop_zero] at h
      simp [Vm.results, t4, h]
theorem eqZ_loop (a b : Option (List Slt)) (hlen : (a.getD []).length = (b.getD []).length) (hs : (a.getD []).length < 2 ^ 62) {X : Type} (K : Ex × St → Option X) (Q : Option X → Prop) : ∀ (m i : Nat) (σ : Nat → D), i + m = (a.getD []).length →
    σ 0 = encL 6 encSlt a → σ 1 = encL 6 encSlt b → σ 12 = I (a.getD []).length → σ 13 = I i →
    (∀ σ', (a.getD []).drop i = (b.getD []).drop i → Q (K (.exit 0, ⟨σ', [], 26⟩))) → (∀ σ', (a.getD []).drop i ≠ (b.getD []).drop i → σ' 4 = .bool false → Q (K (.ret, ⟨σ', [], 26⟩))) →
    Q ((W Tryz.prog cfg (.loop (loopAt Tryz.f104 4)) ⟨σ, [], 26⟩).bind K) := by
  intro m
  induction m with
  | zero =>
    intro i σ hi s0 s1 s12 s13 hK hR
    have h0 : ¬ (i < (a.getD []).length) := by omega
    rw [Wloop]
    conv => arg 1; arg 1; arg 1; simp [loopAt, loopIn, headId, Tryz.f104, s0, s1, s12, s13, h0]
    exact hK _ (by rw [List.drop_eq_nil_of_le (by omega), List.drop_eq_nil_of_le (by omega)])
  | succ m ih =>
    intro i σ hi s0 s1 s12 s13 hK hR
    have ha : i < (a.getD []).length := by omega
    have hb : i < (b.getD []).length := by omega
    have hlt : decide (i < (a.getD []).length) = true := dt ha
    have xa := idxD_nat .i64 ha; have xb := idxD_nat .i64 hb
    have ga : (a.getD [])[i]? = some (a.getD [])[i] := List.getElem?_eq_getElem ha
    have gb : (b.getD [])[i]? = some (b.getD [])[i] := List.getElem?_eq_getElem hb
    have hw : IntKind.i64.wrap ((i : Int) + 1) = ((i + 1 : Nat) : Int) := wr (by omega) (by omega)
    have hd := dr104_6
    simp [opsAt, opsIn, Tryz.f104] at hd
    have hdw := Wdraw0 hd
    clear hd
    have hq := fun s t => neq_slt s t (a.getD [])[i] (b.getD [])[i]
    cases k : decide ((a.getD [])[i] = (b.getD [])[i])
    · rw [k] at hq
      have hne : (a.getD []).drop i ≠ (b.getD []).drop i := fun h => (of_decide_eq_false k) ((drop_eq_iff ha hb).1 h).1
      generalize (a.getD [])[i] = u at *
      generalize (b.getD [])[i] = v at *
      rw [Wloop]
      conv => arg 1; arg 1; arg 1; simp [loopAt, loopIn, headId, Tryz.f104, s0, s1, s12, s13, hlt, xa, xb, ga, gb, hdw, hq]
      exact hR _ hne (by simp)
    · have e := of_decide_eq_true k
      rw [k] at hq
      have hK' : ∀ σ', (a.getD []).drop (i + 1) = (b.getD []).drop (i + 1) → Q (K (.exit 0, ⟨σ', [], 26⟩)) := fun σ' h => hK σ' ((drop_eq_iff ha hb).2 ⟨e, h⟩)
      have hR' : ∀ σ', (a.getD []).drop (i + 1) ≠ (b.getD []).drop (i + 1) → σ' 4 = .bool false → Q (K (.ret, ⟨σ', [], 26⟩)) := fun σ' h => hR σ' (fun h2 => h ((drop_eq_iff ha hb).1 h2).2)
      clear hK hR
      generalize (a.getD [])[i] = u at *
      generalize (b.getD [])[i] = v at *
      rw [Wloop]
      conv => arg 1; arg 1; arg 1; simp [loopAt, loopIn, headId, Tryz.f104, s0, s1, s12, s13, hlt, xa, xb, ga, gb, hdw, hq, hw]
      rw [Option.bind_some, loopK_normal]
      exact ih (i + 1) _ (by omega) (by simp [s0]) (by simp [s1]) (by simp [s12]) (by simp) hK' hR'
theorem eqZ_spec (a b : Option (List Slt)) (hs : (a.getD []).length < 2 ^ 62) : fnc Tryz.prog cfg R 104 [encL 6 encSlt a, encL 6 encSlt b] = some (.bool (decide (a.getD [] = b.getD []))) := by
  rw [fnc_at rfl, body_eq Tryz.func104 rfl rfl]
  cases k : decide ((a.getD []).length = (b.getD []).length)
  · have e : decide (a.getD [] = b.getD []) = false := df (fun h => (of_decide_eq_false k) (by rw [h]))
    rw [e]
    have k' : decide (((a.getD []).length : Int) = ((b.getD []).length : Int)) = false := df (by have := of_decide_eq_false k; omega)
    simp [argsσ, Vm.results, k, k']
  · have hl := of_decide_eq_true k
    have k' : decide (((a.getD []).length : Int) = ((b.getD []).length : Int)) = true := dt (by omega)
    simp [argsσ, k, k', Option.bind_assoc]
    refine eqZ_loop a b hl hs _ (fun o => o = some _) (a.getD []).length 0 _ (by omega) (by simp [argsσ]) (by simp [argsσ]) (by simp) (by simp) ?_ ?_
    · intro σ' h
      simp only [List.drop_zero] at h
      have e : decide (a.getD [] = b.getD []) = true := dt h
      simp [Vm.results, e, h]
    · intro σ' h t4
      simp only [List.drop_zero] at h
      simp [Vm.results, t4, h]
theorem frEq (f g : Fr) : decide (f = g) = (decide (f.stack = g.stack) && decide (f.locals = g.locals) && decide (f.slots = g.slots) && decide (f.fn = g.fn) && decide (f.pc = g.pc) && decide (f.seed = g.seed) && decide (f.spawned = g.spawned) && decide (f.draws = g.draws) && decide (f.state = g.state) && decide (f.wait = g.wait) && decide (f.out = g.out) && decide (f.up = g.up) && decide (f.upSlot = g.upSlot)) := by
  cases f; cases g
  rw [Bool.eq_iff_iff]
  simp only [Bool.and_eq_true, decide_eq_true_eq, Fr.mk.injEq]
  constructor
  · rintro ⟨a, b, c, d, e, f, g, h, i, j, k, l, m⟩; exact ⟨⟨⟨⟨⟨⟨⟨⟨⟨⟨⟨⟨c, d⟩, e⟩, a⟩, b⟩, f⟩, g⟩, h⟩, i⟩, j⟩, k⟩, l⟩, m⟩
  · rintro ⟨⟨⟨⟨⟨⟨⟨⟨⟨⟨⟨⟨c, d⟩, e⟩, a⟩, b⟩, f⟩, g⟩, h⟩, i⟩, j⟩, k⟩, l⟩, m⟩; exact ⟨a, b, c, d, e, f, g, h, i, j, k, l, m⟩
theorem same_spec (f g : Fr) (a b a' b' : Option (List Vl)) (z z' : Option (List Slt)) (ha : a.getD [] = f.stack) (hb : b.getD [] = f.locals) (hz : z.getD [] = f.slots) (ha' : a'.getD [] = g.stack) (hb' : b'.getD [] = g.locals) (hz' : z'.getD [] = g.slots)
    (h1 : f.stack.length < 2 ^ 62) (h2 : f.locals.length < 2 ^ 62) (h3 : f.slots.length < 2 ^ 62) :
    fnc Tryz.prog cfg R 81 [frC f (encL 2 encV a) (encL 2 encV b) (encL 6 encSlt z), frC g (encL 2 encV a') (encL 2 encV b') (encL 6 encSlt z')] = some (.bool (decide (f = g))) := by
  have e1 := eqV_spec a a' (by rw [ha]; exact h1)
  have e2 := eqV_spec b b' (by rw [hb]; exact h2)
  have e3 := eqZ_spec z z' (by rw [hz]; exact h3)
  have q1 := fun s t => eq_out s t f.out g.out
  have q2 := fun s t => eq_rf s t f.up g.up
  rw [ha, ha'] at e1
  rw [hb, hb'] at e2
  rw [hz, hz'] at e3
  have exz : ∀ (h : List Ob) (z : Option (List Slt)), exp1 h (encL 6 encSlt z) = some (encL 6 encSlt z) := fun h z => exp_clean (by simp) (by simp)
  rw [frEq, fnc_at rfl, body_eq Tryz.func81 rfl rfl]
  cases k1 : decide (f.stack = g.stack)
  · rw [k1] at e1; simp [argsσ, Vm.results, e1]
  rw [k1] at e1
  cases k2 : decide (f.locals = g.locals)
  · rw [k2] at e2; simp [argsσ, Vm.results, e1, e2]
  rw [k2] at e2
  cases k3 : decide (f.slots = g.slots)
  · rw [k3] at e3; simp [argsσ, Vm.results, e1, e2, e3, exz]
  rw [k3] at e3
  cases k4 : decide (f.fn = g.fn)
  · simp [argsσ, Vm.results, e1, e2, e3, exz, k4]
  cases k5 : decide (f.pc = g.pc)
  · simp [argsσ, Vm.results, e1, e2, e3, exz, k4, k5]
  cases k6 : decide (f.seed = g.seed)
  · simp [argsσ, Vm.results, e1, e2, e3, exz, k4, k5, k6]
  cases k7 : decide (f.spawned = g.spawned)
  · simp [argsσ, Vm.results, e1, e2, e3, exz, k4, k5, k6, k7]
  cases k8 : decide (f.draws = g.draws)
  · simp [argsσ, Vm.results, e1, e2, e3, exz, k4, k5, k6, k7, k8]
  cases k9 : decide (f.state = g.state)
  · simp [argsσ, Vm.results, e1, e2, e3, exz, k4, k5, k6, k7, k8, k9]
  cases k10 : decide (f.wait = g.wait)
  · simp [argsσ, Vm.results, e1, e2, e3, exz, k4, k5, k6, k7, k8, k9, k10]
  cases k11 : decide (f.out = g.out)
  · rw [k11] at q1; simp [argsσ, Vm.results, e1, e2, e3, exz, k4, k5, k6, k7, k8, k9, k10, q1]
  rw [k11] at q1
  cases k12 : decide (f.up = g.up)
  · rw [k12] at q2; simp [argsσ, Vm.results, e1, e2, e3, exz, k4, k5, k6, k7, k8, k9, k10, q1, q2]
  rw [k12] at q2
  cases k13 : decide (f.upSlot = g.upSlot) <;> simp [argsσ, Vm.results, e1, e2, e3, exz, k4, k5, k6, k7, k8, k9, k10, q1, q2, k13]
theorem rsame_loop (f g : Fr) (a b a' b' : Option (List Vl)) (z z' : Option (List Slt)) (hlen : (z.getD []).length = (z'.getD []).length) (hs : (z.getD []).length < 2 ^ 62) {X : Type} (K : Ex × St → Option X) (Q : Option X → Prop) : ∀ (m i : Nat) (σ : Nat → D), i + m = (z.getD []).length →
    σ 2 = .ptr 0 0 0 0 → σ 3 = .ptr 1 0 0 0 → σ 5 = I i →
    (∀ σ', (z.getD []).drop i = (z'.getD []).drop i → σ' 2 = .ptr 0 0 0 0 → σ' 3 = .ptr 1 0 0 0 → Q (K (.exit 0, ⟨σ', [⟨0, 16, [frC f (encL 2 encV a) (encL 2 encV b) (encL 6 encSlt z)], 0⟩, ⟨0, 16, [frC g (encL 2 encV a') (encL 2 encV b') (encL 6 encSlt z')], 0⟩], 115⟩))) →
    (∀ σ', (z.getD []).drop i ≠ (z'.getD []).drop i → σ' 4 = .bool false → Q (K (.ret, ⟨σ', [⟨0, 16, [frC f (encL 2 encV a) (encL 2 encV b) (encL 6 encSlt z)], 0⟩, ⟨0, 16, [frC g (encL 2 encV a') (encL 2 encV b') (encL 6 encSlt z')], 0⟩], 115⟩))) →
    Q ((W Tryz.prog cfg (.loop (loopAt Tryz.f27 4)) ⟨σ, [⟨0, 16, [frC f (encL 2 encV a) (encL 2 encV b) (encL 6 encSlt z)], 0⟩, ⟨0, 16, [frC g (encL 2 encV a') (encL 2 encV b') (encL 6 encSlt z')], 0⟩], 115⟩).bind K) := by
  intro m
  induction m with
  | zero =>
    intro i σ hi s2 s3 s5 hK hR
    have h0 : ¬ (i < (z.getD []).length) := by omega
    rw [Wloop]
    conv => arg 1; arg 1; arg 1; simp [loopAt, loopIn, headId, Tryz.f27, s2, s3, s5, h0]
    exact hK _ (by rw [List.drop_eq_nil_of_le (by omega), List.drop_eq_nil_of_le (by omega)]) (by simp [s2]) (by simp [s3])
  | succ m ih =>
    intro i σ hi s2 s3 s5 hK hR
    have ha : i < (z.getD []).length := by omega
    have hb : i < (z'.getD []).length := by omega
    have hlt : decide (i < (z.getD []).length) = true := dt ha
    have xa := idxD_nat .i64 ha; have xb := idxD_nat .i64 hb
    have ga : (z.getD [])[i]? = some (z.getD [])[i] := List.getElem?_eq_getElem ha
    have gb : (z'.getD [])[i]? = some (z'.getD [])[i] := List.getElem?_eq_getElem hb
    have hw : IntKind.i64.wrap ((i : Int) + 1) = ((i + 1 : Nat) : Int) := wr (by omega) (by omega)
    have hd := dr27_6
    simp [opsAt, opsIn, Tryz.f27] at hd
    have hdw := Wdraw0 hd
    clear hd
    have hq := fun s t => neq_slt s t (z.getD [])[i] (z'.getD [])[i]
    cases k : decide ((z.getD [])[i] = (z'.getD [])[i])
    · rw [k] at hq
      have hne : (z.getD []).drop i ≠ (z'.getD []).drop i := fun h => (of_decide_eq_false k) ((drop_eq_iff ha hb).1 h).1
      generalize (z.getD [])[i] = u at *
      generalize (z'.getD [])[i] = v at *
      rw [Wloop]
      conv => arg 1; arg 1; arg 1; simp [loopAt, loopIn, headId, Tryz.f27, s2, s3, s5, hlt, xa, xb, ga, gb, hdw, hq]
      exact hR _ hne (by simp)
    · have e := of_decide_eq_true k
      rw [k] at hq
      have hK' : ∀ σ', (z.getD []).drop (i + 1) = (z'.getD []).drop (i + 1) → _ := fun σ' h => hK σ' ((drop_eq_iff ha hb).2 ⟨e, h⟩)
      have hR' : ∀ σ', (z.getD []).drop (i + 1) ≠ (z'.getD []).drop (i + 1) → _ := fun σ' h => hR σ' (fun h2 => h ((drop_eq_iff ha hb).1 h2).2)
      clear hK hR
      generalize (z.getD [])[i] = u at *
      generalize (z'.getD [])[i] = v at *
      rw [Wloop]
      conv => arg 1; arg 1; arg 1; simp [loopAt, loopIn, headId, Tryz.f27, s2, s3, s5, hlt, xa, xb, ga, gb, hdw, hq, hw]
      rw [Option.bind_some, loopK_normal]
      exact ih (i + 1) _ (by omega) (by simp [s2]) (by simp [s3]) (by simp) hK' hR'
theorem rsame_spec (f g : Fr) (a b a' b' : Option (List Vl)) (z z' : Option (List Slt)) (ha : a.getD [] = f.stack) (hb : b.getD [] = f.locals) (hz : z.getD [] = f.slots) (ha' : a'.getD [] = g.stack) (hb' : b'.getD [] = g.locals) (hz' : z'.getD [] = g.slots)
    (h1 : f.stack.length < 2 ^ 62) (h2 : f.locals.length < 2 ^ 62) (h3 : f.slots.length < 2 ^ 62) :
    fnc Tryz.prog cfg R 27 [frC f (encL 2 encV a) (encL 2 encV b) (encL 6 encSlt z), frC g (encL 2 encV a') (encL 2 encV b') (encL 6 encSlt z')] = some (.bool (decide (f = g))) := by
  have e1 := values_spec a a' (by rw [ha]; exact h1)
  have e2 := values_spec b b' (by rw [hb]; exact h2)
  have q1 := fun s t => eq_out s t f.out g.out
  have q2 := fun s t => eq_rf s t f.up g.up
  rw [ha, ha'] at e1
  rw [hb, hb'] at e2
  rw [frEq, fnc_at rfl, body_eq Tryz.func27 rfl rfl]
  cases k0 : decide ((z.getD []).length = (z'.getD []).length)
  · have hn := of_decide_eq_false k0
    have k0' : decide (((z.getD []).length : Int) = ((z'.getD []).length : Int)) = false := df (by omega)
    have k3 : decide (f.slots = g.slots) = false := df (fun h => hn (by rw [hz, hz', h]))
    rw [k3]
    simp [argsσ, Vm.results, k0, k0']
  have hl := of_decide_eq_true k0
  have k0' : decide (((z.getD []).length : Int) = ((z'.getD []).length : Int)) = true := dt (by omega)
  cases k1 : decide (f.stack = g.stack)
  · rw [k1] at e1; simp [argsσ, Vm.results, e1, k0, k0']
  rw [k1] at e1
  cases k2 : decide (f.locals = g.locals)
  · rw [k2] at e2; simp [argsσ, Vm.results, e1, e2, k0, k0']
  rw [k2] at e2
  simp [argsσ, e1, e2, k0, k0', Option.bind_assoc]
  refine rsame_loop f g a b a' b' z z' hl (by rw [hz]; exact h3) _ (fun o => o = some _) (z.getD []).length 0 _ (by omega) (by simp) (by simp) (by simp) ?_ ?_
  · intro σ' h t2 t3
    simp only [List.drop_zero] at h
    have k3 : decide (f.slots = g.slots) = true := dt (by rw [← hz, ← hz', h])
    have k3' : f.slots = g.slots := of_decide_eq_true k3
    cases k4 : decide (f.fn = g.fn)
    · simp [t2, t3, Vm.results, k4]
    cases k5 : decide (f.pc = g.pc)
    · simp [t2, t3, Vm.results, k4, k5]
    cases k6 : decide (f.seed = g.seed)
    · simp [t2, t3, Vm.results, k4, k5, k6]
    cases k7 : decide (f.spawned = g.spawned)
    · simp [t2, t3, Vm.results, k4, k5, k6, k7]
    cases k8 : decide (f.draws = g.draws)
    · simp [t2, t3, Vm.results, k4, k5, k6, k7, k8]
    cases k9 : decide (f.state = g.state)
    · simp [t2, t3, Vm.results, k4, k5, k6, k7, k8, k9]
    cases k10 : decide (f.wait = g.wait)
    · simp [t2, t3, Vm.results, k4, k5, k6, k7, k8, k9, k10]
    cases k11 : decide (f.out = g.out)
    · rw [k11] at q1; simp [t2, t3, Vm.results, k4, k5, k6, k7, k8, k9, k10, q1]
    rw [k11] at q1
    cases k12 : decide (f.up = g.up)
    · rw [k12] at q2; simp [t2, t3, Vm.results, k4, k5, k6, k7, k8, k9, k10, q1, q2]
    rw [k12] at q2
    cases k13 : decide (f.upSlot = g.upSlot) <;> simp [t2, t3, Vm.results, k3', k4, k5, k6, k7, k8, k9, k10, q1, q2, k13]
  · intro σ' h t4
    simp only [List.drop_zero] at h
    have k3 : decide (f.slots = g.slots) = false := df (fun h2 => h (by rw [hz, hz', h2]))
    have k3' : f.slots ≠ g.slots := of_decide_eq_false k3
    simp [Vm.results, t4, k3']
def smallF (f : Fr) : Bool := decide (f.stack.length ≤ 40) && decide (f.locals.length ≤ 40) && decide (f.slots.length ≤ 40)
theorem smallF_spec (f : Fr) (a b : Option (List Vl)) (z : Option (List Slt)) (ha : a.getD [] = f.stack) (hb : b.getD [] = f.locals) (hz : z.getD [] = f.slots) : fnc Tryz.prog cfg R 58 [frC f (encL 2 encV a) (encL 2 encV b) (encL 6 encSlt z)] = some (.bool (smallF f)) := by
  unfold smallF
  have c1 : ∀ n : Nat, decide ((n : Int) ≤ 40) = decide (n ≤ 40) := fun n => by rw [decide_eq_decide]; omega
  rw [fnc_at rfl, body_eq Tryz.func58 rfl rfl]
  cases k1 : decide (f.stack.length ≤ 40)
  · simp [argsσ, Vm.results, ha, c1, k1]
  cases k2 : decide (f.locals.length ≤ 40)
  · simp [argsσ, Vm.results, ha, hb, c1, k1, k2]
  simp [argsσ, Vm.results, ha, hb, hz, c1, k1, k2]
def fr0 : Fr := ⟨0, 0, [], [], [], 0, 0, 0, 0, 0, o0, ⟨0, 0⟩, 0⟩
end Go.Proofs.YtifmjomfoilnnaaGreatW.Rg
