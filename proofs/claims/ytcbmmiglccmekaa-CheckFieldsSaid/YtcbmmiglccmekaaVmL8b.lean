/- A place that is reached follows one that is reached. No conditions. -/
import Derived.Test.YtcbmmiglccmekaaVmL8a
import Derived.KernelRfl
set_option linter.unusedVariables false
set_option linter.unusedSimpArgs false
namespace Go.Proofs.YtcbmmiglccmekaaW.Rg
open Go.Proofs.YtcbmmiglccmekaaW.Vm Go.Proofs.YtcbmmiglccmekaaW.Md
open Go Go.Proofs
theorem bin_neqb (x y a b) : binD Try.prog .neq 4 x y (.bool a) (.bool b) = some (.bool (a != b)) := by
  simp [binD, scal, eqGuard, binOp, semPure, bind, Sem.bind, pure, ofVal1, Op.equal]
  cases a <;> cases b <;> kernel_rfl
theorem reach_in (p : Option (List Fu)) (n : Nat) (ds : List Int) (h200 : ds.length ≤ 200) (at_ i : Nat) (d : Int) (hd : ds[i]? = some d) (l : Option (List Int)) (hl2 : (l.getD []).length ≤ 2) {X : Type} (K : Ex × St → Option X) (Q : Option X → Prop) : ∀ (rest : List Int) (k : Nat) (acc : Bool) (σ : Nat → D), (l.getD []).drop k = rest →
    σ 0 = encProg p → σ 1 = I n → σ 5 = encL 1 I (some ds) → σ 6 = I at_ → σ 7 = .bool acc → σ 8 = I i → σ 9 = encL 1 I l → σ 10 = I k →
    (∀ σ', σ' 0 = encProg p → σ' 1 = I n → σ' 5 = encL 1 I (some ds) → σ' 6 = I at_ → σ' 8 = I i → σ' 7 = .bool (acc || (decide (0 ≤ d) && rest.any fun t => decide (t = (at_ : Int)))) → Q (K (.exit 4, ⟨σ', [], 73⟩))) →
    Q ((W Try.prog cfg (.loop (loopAt Try.f5 13)) ⟨σ, [], 73⟩).bind K) := by
  intro rest
  induction rest with
  | nil =>
    intro k acc σ hr s0 s1 s5 s6 s7 s8 s9 s10 he
    have hk : ¬ (k < (l.getD []).length) := by have := congrArg List.length hr; simp at this; omega
    rw [Wloop]
    conv => arg 1; arg 1; arg 1; simp [loopAt, loopIn, headId, Try.f5, s9, s10, hk]
    exact he _ (by simp [s0]) (by simp [s1]) (by simp [s5]) (by simp [s6]) (by simp [s8]) (by simp [s7])
  | cons t rest ih =>
    intro k acc σ hr s0 s1 s5 s6 s7 s8 s9 s10 he
    obtain ⟨hg1, hd1, hk⟩ := drop_get hr
    have hlt : decide (k < (l.getD []).length) = true := dt hk
    have hx := idxD_nat .i64 hk
    have hi : i < ds.length := get_some_lt hd
    have hx2 := idxD_nat .i64 hi
    have hw : IntKind.i64.wrap ((k : Int) + 1) = ((k + 1 : Nat) : Int) := wr (by omega) (by omega)
    rw [Wloop]
    cases acc with
    | true =>
      conv => arg 1; arg 1; arg 1; simp [loopAt, loopIn, headId, Try.f5, s5, s6, s7, s8, s9, s10, hlt, hw]
      rw [Option.bind_some, loopK_normal]
      exact ih (k + 1) true _ hd1 (by simp [s0]) (by simp [s1]) (by simp [s5]) (by simp [s6]) (by simp) (by simp [s8]) (by simp [s9]) (by simp) (fun σ' a b c d e f => he σ' a b c d e (by simpa using f))
    | false =>
      cases c1 : decide (0 ≤ d)
      · conv => arg 1; arg 1; arg 1; simp [loopAt, loopIn, headId, Try.f5, s5, s6, s7, s8, s9, s10, hlt, hw, hx2, hd, c1]
        rw [Option.bind_some, loopK_normal]
        exact ih (k + 1) false _ hd1 (by simp [s0]) (by simp [s1]) (by simp [s5]) (by simp [s6]) (by simp) (by simp [s8]) (by simp [s9]) (by simp) (fun σ' a b c d e f => he σ' a b c d e (by simpa [c1] using f))
      · cases c2 : decide (t = (at_ : Int))
        · conv => arg 1; arg 1; arg 1; simp [loopAt, loopIn, headId, Try.f5, s5, s6, s7, s8, s9, s10, hlt, hw, hx, hx2, hd, hg1, c1, c2]
          rw [Option.bind_some, loopK_normal]
          exact ih (k + 1) false _ hd1 (by simp [s0]) (by simp [s1]) (by simp [s5]) (by simp [s6]) (by simp) (by simp [s8]) (by simp [s9]) (by simp) (fun σ' a b c d e f => he σ' a b c d e (by simpa [c1, c2] using f))
        · conv => arg 1; arg 1; arg 1; simp [loopAt, loopIn, headId, Try.f5, s5, s6, s7, s8, s9, s10, hlt, hw, hx, hx2, hd, hg1, c1, c2]
          rw [Option.bind_some, loopK_normal]
          exact ih (k + 1) true _ hd1 (by simp [s0]) (by simp [s1]) (by simp [s5]) (by simp [s6]) (by simp) (by simp [s8]) (by simp [s9]) (by simp) (fun σ' a b c d e f => he σ' a b c d e (by simpa [c1, c2] using f))
theorem reach_mid (p : Option (List Fu)) (n : Nat) (f : Fu) (hf : (p.getD [])[n]? = some f) (hn : n < 2 ^ 62) (ds : List Int) (hl : ds.length = f.c.length) (h200 : ds.length ≤ 200) (hr : ∀ i, ds.getD i (-1) = -1 ∨ 0 ≤ ds.getD i (-1)) (ha : ∀ x ∈ f.c, 0 ≤ x.a) (at_ : Nat) {X : Type} (K : Ex × St → Option X) (Q : Option X → Prop) : ∀ (m i : Nat) (acc : Bool) (σ : Nat → D), i + m = ds.length →
    σ 0 = encProg p → σ 1 = I n → σ 5 = encL 1 I (some ds) → σ 6 = I at_ → σ 7 = .bool acc → σ 8 = I i →
    (∀ σ' b, σ' 0 = encProg p → σ' 1 = I n → σ' 5 = encL 1 I (some ds) → σ' 6 = I at_ → σ' 7 = .bool b → (b = true ↔ acc = true ∨ ∃ j x, i ≤ j ∧ f.c[j]? = some x ∧ ds.getD j (-1) ≠ -1 ∧ at_ ∈ nextP x j) → Q (K (.exit 2, ⟨σ', [], 73⟩))) →
    Q ((W Try.prog cfg (.loop (loopAt Try.f5 9)) ⟨σ, [], 73⟩).bind K) := by
  intro m
  induction m with
  | zero =>
    intro i acc σ hm s0 s1 s5 s6 s7 s8 he
    have hk : ¬ (i < ds.length) := by omega
    rw [Wloop]
    conv => arg 1; arg 1; arg 1; simp [loopAt, loopIn, headId, Try.f5, s5, s8, hk]
    refine he _ acc (by simp [s0]) (by simp [s1]) (by simp [s5]) (by simp [s6]) (by simp [s7]) ⟨.inl, ?_⟩
    rintro (h | ⟨j, x, h1, h2, _⟩)
    · exact h
    · have := get_some_lt h2; omega
  | succ m ih =>
    intro i acc σ hm s0 s1 s5 s6 s7 s8 he
    have hi : i < ds.length := by omega
    have hic : i < (f.code.getD []).length := by show i < f.c.length; omega
    have hnl := get_some_lt hf
    have hlt : decide (i < ds.length) = true := dt hi
    have hxn := idxD_nat .i64 hnl
    have hx := idxD_nat .i64 hic
    have hw : IntKind.i64.wrap ((i : Int) + 1) = ((i + 1 : Nat) : Int) := wr (by omega) (by omega)
    obtain ⟨x, hgx⟩ : ∃ x, (f.code.getD [])[i]? = some x := ⟨_, List.getElem?_eq_getElem hic⟩
    have hgx' : f.c[i]? = some x := hgx
    have hxa := ha x (List.mem_of_getElem? hgx')
    have hgd : ds[i]? = some ds[i] := List.getElem?_eq_getElem hi
    have e1 : ds.getD i (-1) = ds[i] := by simp [List.getD_eq_getElem?_getD, hgd]
    have hri := hr i
    rw [e1] at hri
    have hN := rnext_spec x i (by omega)
    have hP := nextO_P x i hxa
    have hl2 : ((nextO x i).getD []).length ≤ 2 := by rcases nx_len x i with h | h; rw [h]; simp; exact h
    rw [Wloop]
    conv => arg 1; arg 1; arg 1; simp [loopAt, loopIn, headId, Try.f5, s0, s1, s5, s8, hlt, hxn, hf, hx, hgx, hN]
    simp only [Option.bind_assoc]
    refine reach_in p n ds h200 at_ i ds[i] hgd (nextO x i) hl2 _ Q ((nextO x i).getD []) 0 acc _ (by simp) (by simp [s0]) (by simp [s1]) (by simp [s5]) (by simp [s6]) (by simp [s7]) (by simp [s8]) (by simp) (by simp) ?_
    intro σ' t0 t1 t5 t6 t8 t7
    simp [t8, hw, loopK_normal]
    refine ih (i + 1) _ _ (by omega) (by simp [t0]) (by simp [t1]) (by simp [t5]) (by simp [t6]) (by simp [t7]; rfl) (by simp) ?_
    intro σ'' b u0 u1 u5 u6 u7 hb
    refine he σ'' b u0 u1 u5 u6 u7 ?_
    rw [hb, hP]
    have ea : (List.map (fun (t : Nat) => (t : Int)) (nextP x i)).any (fun t => decide (t = (at_ : Int))) = true ↔ at_ ∈ nextP x i := by
      simp [List.any_eq_true, Int.ofNat_inj]
    constructor
    · rintro (h | ⟨j, y, h1, h2⟩)
      · rw [Bool.or_eq_true, Bool.and_eq_true, ea, decide_eq_true_iff] at h
        rcases h with h | ⟨h1, h2⟩
        · exact .inl h
        · exact .inr ⟨i, x, Nat.le_refl _, hgx', by rw [e1]; omega, h2⟩
      · exact .inr ⟨j, y, by omega, h2⟩
    · rintro (h | ⟨j, y, h1, h2, h3, h4⟩)
      · exact .inl (by simp [h])
      · by_cases hji : j = i
        · subst hji
          rw [hgx'] at h2; cases h2
          refine .inl ?_
          rw [Bool.or_eq_true, Bool.and_eq_true, ea, decide_eq_true_iff]
          exact .inr ⟨by rw [e1] at h3; omega, h4⟩
        · exact .inr ⟨j, y, by omega, h2, h3, h4⟩
theorem reach_out (p : Option (List Fu)) (n : Nat) (f : Fu) (hf : (p.getD [])[n]? = some f) (hn : n < 2 ^ 62) (ds : List Int) (hl : ds.length = f.c.length) (h200 : ds.length ≤ 200) (hr : ∀ i, ds.getD i (-1) = -1 ∨ 0 ≤ ds.getD i (-1)) (ha : ∀ x ∈ f.c, 0 ≤ x.a)
    (hb : ∀ t, t ≠ 0 → t < ds.length → (ds.getD t (-1) ≠ -1 ↔ ∃ j x, f.c[j]? = some x ∧ ds.getD j (-1) ≠ -1 ∧ t ∈ nextP x j)) {X : Type} (K : Ex × St → Option X) (Q : Option X → Prop) : ∀ (m i : Nat) (σ : Nat → D), i + m = ds.length → i ≠ 0 →
    σ 0 = encProg p → σ 1 = I n → σ 5 = encL 1 I (some ds) → σ 6 = I i →
    (∀ σ', Q (K (.exit 0, ⟨σ', [], 73⟩))) →
    Q ((W Try.prog cfg (.loop (loopAt Try.f5 5)) ⟨σ, [], 73⟩).bind K) := by
  intro m
  induction m with
  | zero =>
    intro i σ hm h0 s0 s1 s5 s6 he
    have hk : ¬ (i < ds.length) := by omega
    rw [Wloop]
    conv => arg 1; arg 1; arg 1; simp [loopAt, loopIn, headId, Try.f5, s5, s6, hk]
    exact he _
  | succ m ih =>
    intro i σ hm h0 s0 s1 s5 s6 he
    have hi : i < ds.length := by omega
    have hm1 : i + 1 + m = ds.length := by omega
    have hlt : decide (i < ds.length) = true := dt hi
    have hx := idxD_nat .i64 hi
    have hw : IntKind.i64.wrap ((i : Int) + 1) = ((i + 1 : Nat) : Int) := wr (by omega) (by omega)
    have hgd : ds[i]? = some ds[i] := List.getElem?_eq_getElem hi
    have e1 : ds.getD i (-1) = ds[i] := by simp [List.getD_eq_getElem?_getD, hgd]
    have hri := hr i
    have hbi := hb i h0 hi
    rw [e1] at hri hbi
    rw [Wloop]
    conv => arg 1; arg 1; arg 1; simp [loopAt, loopIn, headId, Try.f5, s5, s6, hlt]
    simp only [Option.bind_assoc]
    refine reach_mid p n f hf hn ds hl h200 hr ha i _ Q ds.length 0 false _ (by simp) (by simp [s0]) (by simp [s1]) (by simp [s5]) (by simp [s6]) (by simp) (by simp) ?_
    intro σ' b t0 t1 t5 t6 t7 hbb
    have eb : b = decide (0 ≤ ds[i]) := by
      rw [Bool.eq_iff_iff, hbb, decide_eq_true_iff]
      have : (0 ≤ ds[i]) ↔ ds[i] ≠ -1 := ⟨fun h e => by rw [e] at h; exact absurd h (by decide), fun h => hri.resolve_left h⟩
      rw [this, hbi]; simp
    rw [eb] at t7
    clear eb hbb hbi
    cases c1 : decide (0 ≤ ds[i]) <;> rw [c1] at t7 <;> simp [t5, t6, t7, hx, hgd, c1, hw, loopK_normal, bin_neqb] <;> exact ih (i + 1) _ hm1 (Nat.succ_ne_zero i) (by simp [t0]) (by simp [t1]) (by simp [t5]) (by simp) he
theorem good_back {p : List Fu} (hg : good p = true) {n : Nat} {f : Fu} (hf : p[n]? = some f) :
    depths p n = depthsOf p f ∧ (depthsOf p f).length = f.c.length ∧ f.c.length ≤ 200 ∧ (∀ i, (depthsOf p f).getD i (-1) = -1 ∨ 0 ≤ (depthsOf p f).getD i (-1)) ∧ (∀ x ∈ f.c, 0 ≤ x.a) ∧
    ∀ t, t ≠ 0 → ((depthsOf p f).getD t (-1) ≠ -1 ↔ ∃ j x, f.c[j]? = some x ∧ (depthsOf p f).getD j (-1) ≠ -1 ∧ t ∈ nextP x j) := by
  have hm := (good_iff.1 hg).1
  have hfm := List.mem_of_getElem? hf
  have hF := (good_fin hg hfm).2
  have hl := fmay_len (mayP_f hm hfm)
  refine ⟨depths_good hg hf, by rw [hF.len, shapes_len], hl.2, fun i => (hF.rng i).imp id (·.1), fun x hx => imay_a (fmay_all (mayP_f hm hfm) x hx), fun t ht => ⟨fun h => ?_, ?_⟩⟩
  · obtain ⟨i, s, h1, h2, h3⟩ := hF.back t ht h
    rw [shapes_get] at h1
    cases hx : f.c[i]? with
    | none => rw [hx] at h1; cases h1
    | some x => rw [hx] at h1; simp at h1; subst h1; exact ⟨i, x, hx, h2, h3⟩
  · rintro ⟨j, x, h1, h2, h3⟩
    obtain ⟨h4, h5, h6⟩ := hF.safe j ⟨offP p x, on6 x.op, nextP x j⟩ (by rw [shapes_get, h1]; rfl) h2
    have := (h6 t h3).2
    have h7 := on6_le x.op
    dsimp only at h4 this
    omega
theorem reach8_law (p : Option (List Fu)) (hb : Bnd (p.getD [])) (fn : Int) : fnc Try.prog cfg R 5 [encProg p, I fn] = some (.bool true) := by
  rw [fnc_at rfl, body_eq Try.func5 rfl rfl]
  have hS := small_spec p 300
  cases hs : small (p.getD []) 300 with
  | false =>
    rw [hs] at hS
    simp [argsσ, Vm.results, hS, fixed8]
  | true =>
    rw [hs] at hS
    have h3 := depths_spec p hb.len fn
    by_cases hg : good (p.getD []) = true ∧ 0 ≤ fn ∧ fn < (p.getD []).length
    · rw [if_pos hg] at h3
      obtain ⟨n, rfl⟩ : ∃ n : Nat, fn = n := ⟨fn.toNat, by omega⟩
      have hn : n < (p.getD []).length := by omega
      obtain ⟨f, hf⟩ : ∃ f, (p.getD [])[n]? = some f := ⟨_, List.getElem?_eq_getElem hn⟩
      obtain ⟨e0, e1, e2, e3, e4, e5⟩ := good_back hg.1 hf
      rw [e0] at h3
      have hbl := hb.len
      simp [argsσ, hS, fixed8, h3, Option.bind_assoc]
      refine reach_out p n f hf (by have := ((good_iff.1 hg.1).1); unfold mayP at this; simp at this; omega) (depthsOf (p.getD []) f) e1 (by omega) e3 e4 (fun t h _ => e5 t h) _ (fun o => o = some _) ((depthsOf (p.getD []) f).length - 1) 1 _ ?_ (by omega) (by simp [argsσ]) (by simp [argsσ]) (by simp) (by simp) ?_
      · have := fmay_len (mayP_f (good_iff.1 hg.1).1 (List.mem_of_getElem? hf)); omega
      · intro σ'
        simp [Vm.results]
    · rw [if_neg hg] at h3
      simp [argsσ, Vm.results, hS, fixed8, h3, Wloop, encL]
end Go.Proofs.YtcbmmiglccmekaaW.Rg
