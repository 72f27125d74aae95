/- Each place that is reached takes and lays what there is, and room for. No conditions. -/
import Derived.Test.YtcbmmiglccmekaaVmL8b
set_option linter.unusedVariables false
set_option linter.unusedSimpArgs false
namespace Go.Proofs.YtcbmmiglccmekaaW.Rg
open Go.Proofs.YtcbmmiglccmekaaW.Vm Go.Proofs.YtcbmmiglccmekaaW.Md
open Go Go.Proofs
theorem safe_in (p : Option (List Fu)) (ds : List Int) (h200 : ds.length ≤ 200) (i : Nat) (b : Int) (l : Option (List Int)) (hl2 : (l.getD []).length ≤ 2) (H : List Ob) {X : Type} (K : Ex × St → Option X) (Q : Option X → Prop) : ∀ (ts : List Nat) (k : Nat) (σ : Nat → D), (l.getD []).drop k = ts.map (fun (t : Nat) => (t : Int)) → (∀ t ∈ ts, t < ds.length ∧ ds.getD t (-1) = b) →
    σ 0 = encProg p → σ 8 = encL 1 I (some ds) → σ 9 = .ptr 0 0 0 0 → σ 10 = I i → σ 12 = I b → σ 13 = encL 1 I l → σ 14 = I k →
    (∀ σ', σ' 0 = encProg p → σ' 8 = encL 1 I (some ds) → σ' 9 = .ptr 0 0 0 0 → σ' 10 = I i → Q (K (.exit 2, ⟨σ', H, 190⟩))) →
    Q ((W Try.prog cfg (.loop (loopAt Try.f4 22)) ⟨σ, H, 190⟩).bind K) := by
  intro ts
  induction ts with
  | nil =>
    intro k σ hr ht s0 s8 s9 s10 s12 s13 s14 he
    have hk : ¬ (k < (l.getD []).length) := by have := congrArg List.length hr; simp at this; omega
    rw [Wloop]
    conv => arg 1; arg 1; arg 1; simp [loopAt, loopIn, headId, Try.f4, s13, s14, hk]
    exact he _ (by simp [s0]) (by simp [s8]) (by simp [s9]) (by simp [s10])
  | cons t ts ih =>
    intro k σ hr ht s0 s8 s9 s10 s12 s13 s14 he
    rw [List.map_cons] at hr
    obtain ⟨hg1, hd1, hk⟩ := drop_get hr
    have hlt : decide (k < (l.getD []).length) = true := dt hk
    have hx := idxD_nat .i64 hk
    obtain ⟨h1, h2⟩ := ht t (by simp)
    have hx2 := idxD_nat .i64 h1
    have hgd : ds[t]? = some ds[t] := List.getElem?_eq_getElem h1
    have e1 : ds.getD t (-1) = ds[t] := by simp [List.getD_eq_getElem?_getD, hgd]
    rw [e1] at h2
    rw [h2] at hgd
    have c1 : decide (ds.length ≤ t) = false := df (by omega)
    have c1' : decide ((ds.length : Int) ≤ t) = false := df (by omega)
    have hw : IntKind.i64.wrap ((k : Int) + 1) = ((k + 1 : Nat) : Int) := wr (by omega) (by omega)
    rw [Wloop]
    conv => arg 1; arg 1; arg 1; simp [loopAt, loopIn, headId, Try.f4, s8, s12, s13, s14, hlt, hx, hg1, c1, c1', hx2, hgd, hw]
    rw [Option.bind_some, loopK_normal]
    exact ih (k + 1) _ hd1 (fun t h => ht t (by simp [h])) (by simp [s0]) (by simp [s8]) (by simp [s9]) (by simp [s10]) (by simp [s12]) (by simp [s13]) (by simp) he
/-- what the field test asks of an instruction -/
theorem field_cases {np : Nat} {f : Fu} {x : Instr} (h : fieldE np f x = 0) :
    (x.op = 1 ∧ x.a < f.locals) ∨ (x.op = 2 ∧ x.a < f.locals) ∨ (x.op = 13 ∧ x.a < np ∧ x.b < f.slots) ∨ (x.op = 14 ∧ x.a < f.slots) ∨ (x.op ≠ 1 ∧ x.op ≠ 2 ∧ x.op ≠ 13 ∧ x.op ≠ 14) := by
  unfold fieldE at h
  by_cases h1 : x.op = 1
  · rw [if_pos (.inl h1)] at h; split at h
    · omega
    · exact .inl ⟨h1, by omega⟩
  by_cases h2 : x.op = 2
  · rw [if_pos (.inr h2)] at h; split at h
    · omega
    · exact .inr (.inl ⟨h2, by omega⟩)
  rw [if_neg (by omega)] at h
  by_cases h14 : x.op = 14
  · rw [if_pos h14] at h; split at h
    · omega
    · exact .inr (.inr (.inr (.inl ⟨h14, by omega⟩)))
  rw [if_neg h14] at h
  by_cases h13 : x.op = 13
  · rw [if_pos h13] at h; split at h
    · omega
    · split at h
      · omega
      · exact .inr (.inr (.inl ⟨h13, by omega, by omega⟩))
  exact .inr (.inr (.inr (.inr ⟨h1, h2, h13, h14⟩)))
theorem safe_out (p : Option (List Fu)) (f : Fu) (hs : Safe (p.getD []) f.c) (hfe : ∀ x ∈ f.c, fieldE (p.getD []).length f x = 0) (ds : List Int) (hl : ds.length = f.c.length) (hr : ∀ i, ds.getD i (-1) = -1 ∨ (0 ≤ ds.getD i (-1) ∧ ds.getD i (-1) ≤ 16))
    (hF : ∀ j x, f.c[j]? = some x → ds.getD j (-1) ≠ -1 → offP (p.getD []) x ≤ ds.getD j (-1) ∧ ds.getD j (-1) - offP (p.getD []) x + on6 x.op ≤ 16 ∧ ∀ t ∈ nextP x j, t < ds.length ∧ ds.getD t (-1) = ds.getD j (-1) - offP (p.getD []) x + on6 x.op)
    {X : Type} (K : Ex × St → Option X) (Q : Option X → Prop) : ∀ (m i : Nat) (H : List Ob) (σ : Nat → D), i + m = ds.length → H[0]? = some ⟨0, 4, [encFunc f], 0⟩ →
    σ 0 = encProg p → σ 8 = encL 1 I (some ds) → σ 9 = .ptr 0 0 0 0 → σ 10 = I i →
    (∀ σ' H', Q (K (.exit 0, ⟨σ', H', 190⟩))) →
    Q ((W Try.prog cfg (.loop (loopAt Try.f4 11)) ⟨σ, H, 190⟩).bind K) := by
  intro m
  induction m with
  | zero =>
    intro i H σ hm hH s0 s8 s9 s10 he
    have hk : ¬ (i < ds.length) := by omega
    rw [Wloop]
    conv => arg 1; arg 1; arg 1; simp [loopAt, loopIn, headId, Try.f4, s8, s10, hk]
    exact he _ _
  | succ m ih =>
    intro i H σ hm hH s0 s8 s9 s10 he
    have h200 := hs.len
    have hi : i < ds.length := by omega
    have hm1 : i + 1 + m = ds.length := by omega
    have hic : i < (f.code.getD []).length := by show i < f.c.length; omega
    have hlt : decide (i < ds.length) = true := dt hi
    have hxd := idxD_nat .i64 hi
    have hx := idxD_nat .i64 hic
    have hw : IntKind.i64.wrap ((i : Int) + 1) = ((i + 1 : Nat) : Int) := wr (by omega) (by omega)
    obtain ⟨x, hgx⟩ : ∃ x, (f.code.getD [])[i]? = some x := ⟨_, List.getElem?_eq_getElem hic⟩
    have hgx' : f.c[i]? = some x := hgx
    have hxm := List.mem_of_getElem? hgx'
    have hxa := (hs.a hxm).2.2.1
    have hgd : ds[i]? = some ds[i] := List.getElem?_eq_getElem hi
    have e1 : ds.getD i (-1) = ds[i] := by simp [List.getD_eq_getElem?_getD, hgd]
    have hri := hr i
    have hFi := hF i x hgx'
    rw [e1] at hri hFi
    have hN := rnext_spec x i (by omega)
    have hP := nextO_P x i hxa
    have hl2 : ((nextO x i).getD []).length ≤ 2 := by rcases nx_len x i with h | h; rw [h]; simp; exact h
    have hO := roff_spec p f.c hs x hxm
    have hon := on_spec x.op
    have ho1 := hs.off hxm
    have ho2 := on6_le x.op
    have hd17 := dr4_17
    simp [opsAt, opsIn, Try.f4] at hd17
    have hdw17 := Wdraw0 hd17
    clear hd17
    have hd18 := dr4_18
    simp [opsAt, opsIn, Try.f4] at hd18
    have hdw18 := Wdraw0 hd18
    clear hd18
    have hH1 : (H ++ [⟨0, 3, [encInstr x], 0⟩])[0]? = some ⟨0, 4, [encFunc f], 0⟩ := by
      rw [List.getElem?_append_left (get_some_lt hH)]; exact hH
    have hH2 : (H ++ [⟨0, 3, [encInstr x], 0⟩])[H.length]? = some ⟨0, 3, [encInstr x], 0⟩ := by simp
    have hfc := field_cases (hfe x hxm)
    generalize ds[i] = d at *
    generalize hO' : offP (p.getD []) x = o at *
    generalize hon' : on6 x.op = on at *
    generalize hH3 : H ++ [⟨0, 3, [encInstr x], 0⟩] = H3 at *
    cases c0 : decide (d < 0)
    · -- reached
      have hd0 : d ≠ -1 := by have := of_decide_eq_false c0; omega
      obtain ⟨f1, f2, f3⟩ := hFi hd0
      have w1 : IntKind.i64.wrap (d - o) = d - o := wr (by omega) (by omega)
      have w2 : IntKind.i64.wrap (d - o + on) = d - o + on := wr (by omega) (by omega)
      have q1 : decide (d < o) = false := df (by omega)
      have q2 : decide (16 < d - o + on) = false := df (by omega)
      have q3 : decide (16 < d) = false := df (by omega)
      have fin : ∀ σ2 : Nat → D, σ2 0 = encProg p → σ2 8 = encL 1 I (some ds) → σ2 9 = .ptr 0 0 0 0 → σ2 10 = I i → σ2 12 = I (d - o + on) → σ2 13 = encL 1 I (nextO x i) → σ2 14 = I 0 → ∀ K2 : Ex × St → Option X, (∀ σ', σ' 0 = encProg p → σ' 8 = encL 1 I (some ds) → σ' 9 = .ptr 0 0 0 0 → σ' 10 = I i → Q (K2 (.exit 2, ⟨σ', H3, 190⟩))) → Q ((W Try.prog cfg (.loop (loopAt Try.f4 22)) ⟨σ2, H3, 190⟩).bind K2) :=
        fun σ2 a b c d' e g h K2 hK2 => safe_in p ds (by omega) i _ (nextO x i) hl2 H3 K2 Q (nextP x i) 0 σ2 (by simpa using hP) f3 a b c d' e g (by simpa using h) hK2
      rw [Wloop]
      rcases hfc with ⟨a1, a2⟩ | ⟨a1, a2⟩ | ⟨a1, a2, a3⟩ | ⟨a1, a2⟩ | ⟨a1, a2, a3, a4⟩
      · have b1 : decide (x.op = 1) = true := dt (by omega)
        have b2 : decide (x.op = 2) = false := df (by omega)
        have b13 : decide (x.op = 13) = false := df (by omega)
        have b14 : decide (x.op = 14) = false := df (by omega)
        have g1 : decide (f.locals ≤ x.a) = false := df (by omega)
        conv => arg 1; arg 1; arg 1; simp [loopAt, loopIn, headId, Try.f4, s0, s8, s9, s10, hlt, hx, hxd, hH, hgx, hH3, hH1, hH2, hgd, c0, hdw17, hdw18, hO, hon, hN, w1, w2, q1, q2, q3, b1, b2, b13, b14, g1]
        simp only [Option.bind_assoc]
        refine fin _ (by simp [s0]) (by simp [s8]) (by simp [s9]) (by simp [s10]) (by simp) (by simp) (by simp) _ ?_
        intro σ' t0 t8 t9 t10
        simp [t10, hw, loopK_normal]
        exact ih (i + 1) H3 _ hm1 hH1 (by simp [t0]) (by simp [t8]) (by simp [t9]) (by simp) he
      · have b1 : decide (x.op = 1) = false := df (by omega)
        have b2 : decide (x.op = 2) = true := dt (by omega)
        have b13 : decide (x.op = 13) = false := df (by omega)
        have b14 : decide (x.op = 14) = false := df (by omega)
        have g1 : decide (f.locals ≤ x.a) = false := df (by omega)
        conv => arg 1; arg 1; arg 1; simp [loopAt, loopIn, headId, Try.f4, s0, s8, s9, s10, hlt, hx, hxd, hH, hgx, hH3, hH1, hH2, hgd, c0, hdw17, hdw18, hO, hon, hN, w1, w2, q1, q2, q3, b1, b2, b13, b14, g1]
        simp only [Option.bind_assoc]
        refine fin _ (by simp [s0]) (by simp [s8]) (by simp [s9]) (by simp [s10]) (by simp) (by simp) (by simp) _ ?_
        intro σ' t0 t8 t9 t10
        simp [t10, hw, loopK_normal]
        exact ih (i + 1) H3 _ hm1 hH1 (by simp [t0]) (by simp [t8]) (by simp [t9]) (by simp) he
      · have b1 : decide (x.op = 1) = false := df (by omega)
        have b2 : decide (x.op = 2) = false := df (by omega)
        have b13 : decide (x.op = 13) = true := dt (by omega)
        have b14 : decide (x.op = 14) = false := df (by omega)
        have g1 : decide (((p.getD []).length : Int) ≤ x.a) = false := df (by omega)
        have g2 : decide (f.slots ≤ x.b) = false := df (by omega)
        conv => arg 1; arg 1; arg 1; simp [loopAt, loopIn, headId, Try.f4, s0, s8, s9, s10, hlt, hx, hxd, hH, hgx, hH3, hH1, hH2, hgd, c0, hdw17, hdw18, hO, hon, hN, w1, w2, q1, q2, q3, b1, b2, b13, b14, g1, g2]
        simp only [Option.bind_assoc]
        refine fin _ (by simp [s0]) (by simp [s8]) (by simp [s9]) (by simp [s10]) (by simp) (by simp) (by simp) _ ?_
        intro σ' t0 t8 t9 t10
        simp [t10, hw, loopK_normal]
        exact ih (i + 1) H3 _ hm1 hH1 (by simp [t0]) (by simp [t8]) (by simp [t9]) (by simp) he
      · have b1 : decide (x.op = 1) = false := df (by omega)
        have b2 : decide (x.op = 2) = false := df (by omega)
        have b13 : decide (x.op = 13) = false := df (by omega)
        have b14 : decide (x.op = 14) = true := dt (by omega)
        have g1 : decide (f.slots ≤ x.a) = false := df (by omega)
        conv => arg 1; arg 1; arg 1; simp [loopAt, loopIn, headId, Try.f4, s0, s8, s9, s10, hlt, hx, hxd, hH, hgx, hH3, hH1, hH2, hgd, c0, hdw17, hdw18, hO, hon, hN, w1, w2, q1, q2, q3, b1, b2, b13, b14, g1]
        simp only [Option.bind_assoc]
        refine fin _ (by simp [s0]) (by simp [s8]) (by simp [s9]) (by simp [s10]) (by simp) (by simp) (by simp) _ ?_
        intro σ' t0 t8 t9 t10
        simp [t10, hw, loopK_normal]
        exact ih (i + 1) H3 _ hm1 hH1 (by simp [t0]) (by simp [t8]) (by simp [t9]) (by simp) he
      · have b1 : decide (x.op = 1) = false := df (by omega)
        have b2 : decide (x.op = 2) = false := df (by omega)
        have b13 : decide (x.op = 13) = false := df (by omega)
        have b14 : decide (x.op = 14) = false := df (by omega)
        conv => arg 1; arg 1; arg 1; simp [loopAt, loopIn, headId, Try.f4, s0, s8, s9, s10, hlt, hx, hxd, hH, hgx, hH3, hH1, hH2, hgd, c0, hdw17, hdw18, hO, hon, hN, w1, w2, q1, q2, q3, b1, b2, b13, b14]
        simp only [Option.bind_assoc]
        refine fin _ (by simp [s0]) (by simp [s8]) (by simp [s9]) (by simp [s10]) (by simp) (by simp) (by simp) _ ?_
        intro σ' t0 t8 t9 t10
        simp [t10, hw, loopK_normal]
        exact ih (i + 1) H3 _ hm1 hH1 (by simp [t0]) (by simp [t8]) (by simp [t9]) (by simp) he
    · -- not reached
      rw [Wloop]
      rcases hfc with ⟨a1, a2⟩ | ⟨a1, a2⟩ | ⟨a1, a2, a3⟩ | ⟨a1, a2⟩ | ⟨a1, a2, a3, a4⟩
      · have b1 : decide (x.op = 1) = true := dt (by omega)
        have b2 : decide (x.op = 2) = false := df (by omega)
        have b13 : decide (x.op = 13) = false := df (by omega)
        have b14 : decide (x.op = 14) = false := df (by omega)
        have g1 : decide (f.locals ≤ x.a) = false := df (by omega)
        conv => arg 1; arg 1; arg 1; simp [loopAt, loopIn, headId, Try.f4, s0, s8, s9, s10, hlt, hx, hxd, hH, hgx, hH3, hH1, hH2, hgd, c0, hw, b1, b2, b13, b14, g1]
        rw [Option.bind_some, loopK_normal]
        exact ih (i + 1) H3 _ hm1 hH1 (by simp [s0]) (by simp [s8]) (by simp [s9]) (by simp) he
      · have b1 : decide (x.op = 1) = false := df (by omega)
        have b2 : decide (x.op = 2) = true := dt (by omega)
        have b13 : decide (x.op = 13) = false := df (by omega)
        have b14 : decide (x.op = 14) = false := df (by omega)
        have g1 : decide (f.locals ≤ x.a) = false := df (by omega)
        conv => arg 1; arg 1; arg 1; simp [loopAt, loopIn, headId, Try.f4, s0, s8, s9, s10, hlt, hx, hxd, hH, hgx, hH3, hH1, hH2, hgd, c0, hw, b1, b2, b13, b14, g1]
        rw [Option.bind_some, loopK_normal]
        exact ih (i + 1) H3 _ hm1 hH1 (by simp [s0]) (by simp [s8]) (by simp [s9]) (by simp) he
      · have b1 : decide (x.op = 1) = false := df (by omega)
        have b2 : decide (x.op = 2) = false := df (by omega)
        have b13 : decide (x.op = 13) = true := dt (by omega)
        have b14 : decide (x.op = 14) = false := df (by omega)
        have g1 : decide (((p.getD []).length : Int) ≤ x.a) = false := df (by omega)
        have g2 : decide (f.slots ≤ x.b) = false := df (by omega)
        conv => arg 1; arg 1; arg 1; simp [loopAt, loopIn, headId, Try.f4, s0, s8, s9, s10, hlt, hx, hxd, hH, hgx, hH3, hH1, hH2, hgd, c0, hw, b1, b2, b13, b14, g1, g2]
        rw [Option.bind_some, loopK_normal]
        exact ih (i + 1) H3 _ hm1 hH1 (by simp [s0]) (by simp [s8]) (by simp [s9]) (by simp) he
      · have b1 : decide (x.op = 1) = false := df (by omega)
        have b2 : decide (x.op = 2) = false := df (by omega)
        have b13 : decide (x.op = 13) = false := df (by omega)
        have b14 : decide (x.op = 14) = true := dt (by omega)
        have g1 : decide (f.slots ≤ x.a) = false := df (by omega)
        conv => arg 1; arg 1; arg 1; simp [loopAt, loopIn, headId, Try.f4, s0, s8, s9, s10, hlt, hx, hxd, hH, hgx, hH3, hH1, hH2, hgd, c0, hw, b1, b2, b13, b14, g1]
        rw [Option.bind_some, loopK_normal]
        exact ih (i + 1) H3 _ hm1 hH1 (by simp [s0]) (by simp [s8]) (by simp [s9]) (by simp) he
      · have b1 : decide (x.op = 1) = false := df (by omega)
        have b2 : decide (x.op = 2) = false := df (by omega)
        have b13 : decide (x.op = 13) = false := df (by omega)
        have b14 : decide (x.op = 14) = false := df (by omega)
        conv => arg 1; arg 1; arg 1; simp [loopAt, loopIn, headId, Try.f4, s0, s8, s9, s10, hlt, hx, hxd, hH, hgx, hH3, hH1, hH2, hgd, c0, hw, b1, b2, b13, b14]
        rw [Option.bind_some, loopK_normal]
        exact ih (i + 1) H3 _ hm1 hH1 (by simp [s0]) (by simp [s8]) (by simp [s9]) (by simp) he
theorem safe8_law (p : Option (List Fu)) (hb : Bnd (p.getD [])) (fn : Int) : fnc Try.prog cfg R 4 [encProg p, I fn] = some (.bool true) := by
  rw [fnc_at rfl, body_eq Try.func4 rfl rfl]
  have hS := small_spec p 300
  have hlen := hb.len
  cases hs : small (p.getD []) 300 with
  | false =>
    rw [hs] at hS
    simp [argsσ, Vm.results, hS, fixed8]
  | true =>
    rw [hs] at hS
    cases k1 : decide (fn < 0)
    case true => simp [argsσ, Vm.results, hS, fixed8, k1]
    cases k2 : decide (((p.getD []).length : Int) ≤ fn)
    case true => simp [argsσ, Vm.results, hS, fixed8, k1, k2]
    have m1 := of_decide_eq_false k1; have m2 := of_decide_eq_false k2
    obtain ⟨n, rfl⟩ : ∃ n : Nat, fn = n := ⟨fn.toNat, by omega⟩
    have k2' : decide ((p.getD []).length ≤ n) = false := df (by omega)
    have hn : n < (p.getD []).length := by omega
    have h1 := check_spec p hb.len
    have h3 := depths_spec p hb.len n
    cases hg : good (p.getD []) with
    | false =>
      rw [if_neg (by simp [hg])] at h3
      have e0 : decide ((check (p.getD [])).2.2 = 0) = false := by
        unfold good at hg; exact df (by intro h; rw [h] at hg; cases hg)
      simp [argsσ, Vm.results, hS, fixed8, k1, k2, k2', h1, h3, e0, encL]
    | true =>
      rw [if_pos ⟨hg, by omega, by omega⟩] at h3
      have e0 : decide ((check (p.getD [])).2.2 = 0) = true := by
        unfold good at hg; exact dt (by simpa using hg)
      obtain ⟨f, hf⟩ : ∃ f, (p.getD [])[n]? = some f := ⟨_, List.getElem?_eq_getElem hn⟩
      have hfm := List.mem_of_getElem? hf
      obtain ⟨gm, gf⟩ := good_iff.1 hg
      obtain ⟨ga, gfe, _⟩ := gf f hfm
      have hF := (good_fin hg hfm).2
      have hfl := fmay_len (mayP_f gm hfm)
      obtain ⟨hsf, _⟩ := fm_safe gm hfm gfe
      rw [depths_good hg hf] at h3
      have hdl : (depthsOf (p.getD []) f).length = f.c.length := by rw [hF.len, shapes_len]
      have hx := idxD_nat .i64 hn
      have hx0 : idxD (depthsOf (p.getD []) f).length (D.int .i64 0) = some 0 := idxD_nat .i64 (show 0 < (depthsOf (p.getD []) f).length by omega)
      have hd0 := hF.d0
      have hgd : (depthsOf (p.getD []) f)[0]? = some 0 := by
        have : (depthsOf (p.getD []) f)[0]? = some (depthsOf (p.getD []) f)[0] := List.getElem?_eq_getElem (by omega)
        rw [this]; rw [List.getD_eq_getElem?_getD, this] at hd0; simpa using hd0
      have q1 : decide ((depthsOf (p.getD []) f).length = (f.code.getD []).length) = true := dt hdl
      have q1' : decide (((depthsOf (p.getD []) f).length : Int) = ((f.code.getD []).length : Int)) = true := dt (by have : (f.code.getD []).length = f.c.length := rfl; omega)
      have q2 : decide (f.locals < f.arity) = false := df (by omega)
      simp [argsσ, hS, fixed8, k1, k2, k2', h1, h3, e0, hx, hf, q1, q1', hx0, hgd, q2, Option.bind_assoc]
      refine safe_out p f hsf gfe (depthsOf (p.getD []) f) hdl hF.rng ?_ _ (fun o => o = some _) (depthsOf (p.getD []) f).length 0 _ _ (by simp) (by simp) (by simp [argsσ]) (by simp) (by simp) (by simp) ?_
      · intro j x hj hd
        obtain ⟨u1, u2, u3⟩ := hF.safe j ⟨offP (p.getD []) x, on6 x.op, nextP x j⟩ (by rw [shapes_get, hj]; rfl) hd
        refine ⟨u1, u2, fun t ht => ?_⟩
        have := u3 t ht
        rw [shapes_len, ← hdl] at this
        exact this
      · intro σ' H'
        simp [Vm.results]
end Go.Proofs.YtcbmmiglccmekaaW.Rg
