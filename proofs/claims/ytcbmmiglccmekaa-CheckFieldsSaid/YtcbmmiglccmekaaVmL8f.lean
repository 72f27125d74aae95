/- A program whose one function has no code; instructions that stand for each other. No conditions. -/
import Derived.Test.YtcbmmiglccmekaaVmL8e
set_option linter.unusedVariables false
set_option linter.unusedSimpArgs false
namespace Go.Proofs.YtcbmmiglccmekaaW.Rg
open Go.Proofs.YtcbmmiglccmekaaW.Vm Go.Proofs.YtcbmmiglccmekaaW.Md
open Go Go.Proofs
theorem may_bad (E : List D) (hl : E.length < 2 ^ 63) (a b c : Int) {X : Type} (K : Ex × St → Option X) (x : X) : ∀ (m i : Nat) (H : List Ob) (σ : Nat → D), (∀ j, i ≤ j → j < i + m → ∃ f : Fu, E[j]? = some (encFunc f)) → E[i + m]? = some (.agg [I a, I b, I c, .sl 3 [] true]) →
    σ 5 = .sl 4 E false → σ 6 = I E.length → σ 7 = I i →
    (∀ σ' H', σ' 2 = .bool false → K (.ret, ⟨σ', H', 30⟩) = some x) →
    (W Try.prog cfg (.loop (loopAt Try.f23 2)) ⟨σ, H, 30⟩).bind K = some x
  | 0, i, H, σ, hE, hT, s5, s6, s7, hr => by
    have hi := get_some_lt hT
    simp only [Nat.add_zero] at hT hi
    have hlt : decide (i < E.length) = true := dt hi
    have hx := idxD_nat .i64 hi
    have hh := head_spec ⟨a, b, c, some []⟩
    simp only [encFunc, encCode, encL, List.map_nil] at hh
    have hin : inC 0 1 200 = false := by decide
    cases h1 : headOk ⟨a, b, c, some []⟩ <;> rw [h1] at hh
    · rw [Wloop]
      conv => lhs; arg 1; arg 1; simp [loopAt, loopIn, headId, Try.f23, s5, s6, s7, hlt, hx, hT, hh]
      exact hr _ _ (by simp)
    · rw [Wloop]
      conv => lhs; arg 1; arg 1; simp [loopAt, loopIn, headId, Try.f23, s5, s6, s7, hlt, hx, hT, hh, in_spec, hin]
      exact hr _ _ (by simp)
  | m + 1, i, H, σ, hE, hT, s5, s6, s7, hr => by
    have hi : i < E.length := by have := get_some_lt hT; omega
    have he : i + 1 + m = i + (m + 1) := by omega
    have hT' : E[i + 1 + m]? = some (.agg [I a, I b, I c, .sl 3 [] true]) := by rw [he]; exact hT
    have hE' : ∀ j, i + 1 ≤ j → j < i + 1 + m → ∃ f : Fu, E[j]? = some (encFunc f) := fun j h1 h2 => hE j (by omega) (by omega)
    obtain ⟨f, hg1⟩ := hE i (Nat.le_refl _) (by omega)
    have hlt : decide (i < E.length) = true := dt hi
    have hx := idxD_nat .i64 hi
    have hw : IntKind.i64.wrap ((i : Int) + 1) = ((i + 1 : Nat) : Int) := wr (by omega) (by omega)
    have hh := head_spec f
    cases h1 : headOk f with
    | false =>
      rw [h1] at hh
      rw [Wloop]
      conv => lhs; arg 1; arg 1; simp [loopAt, loopIn, headId, Try.f23, s5, s6, s7, hlt, hx, hg1, hh]
      exact hr _ _ (by simp)
    | true =>
      rw [h1] at hh
      cases h2 : inC f.c.length 1 200 with
      | false =>
        have hc : ((f.code.getD []).length : Int) = f.c.length := rfl
        rw [Wloop]
        conv => lhs; arg 1; arg 1; simp [loopAt, loopIn, headId, Try.f23, s5, s6, s7, hlt, hx, hg1, hh, in_spec, hc, h2]
        exact hr _ _ (by simp)
      | true =>
        have hc : ((f.code.getD []).length : Int) = f.c.length := rfl
        have hb : f.c.length < 2 ^ 63 := by unfold inC at h2; simp at h2; omega
        have hC := contains_instr f.code (fun x => !imay x) 37 [] (by simp) (by simp) rfl may1_spec hb
        rw [any_not, show f.code.getD [] = f.c from rfl] at hC
        cases h3 : f.c.all imay with
        | false =>
          rw [h3] at hC
          rw [Wloop]
          conv => lhs; arg 1; arg 1; simp [loopAt, loopIn, headId, Try.f23, s5, s6, s7, hlt, hx, hg1, hh, in_spec, hc, h2, hC]
          exact hr _ _ (by simp)
        | true =>
          rw [h3] at hC
          rw [Wloop]
          conv => lhs; arg 1; arg 1; simp [loopAt, loopIn, headId, Try.f23, s5, s6, s7, hlt, hx, hg1, hh, in_spec, hc, h2, hC, hw]
          rw [Option.bind_some, loopK_normal]
          exact may_bad E hl a b c K x m (i + 1) _ _ hE' hT' (by simp [s5]) (by simp [s6]) (by simp) hr
/-- a program whose function n has no code, as the caller's objects tell it -/
def badE (lp : List Fu) (n : Nat) (a b c : Int) : List D := (lp.map encFunc).set n (.agg [I a, I b, I c, .sl 3 [] true])
theorem badE_len (lp n a b c) : (badE lp n a b c).length = lp.length := by simp [badE]
theorem cmay_bad (lp : List Fu) (hl : lp.length < 2 ^ 62) (n : Nat) (hn : n < lp.length) (a b c : Int) : fnc Try.prog cfg R 23 [.sl 4 (badE lp n a b c) false] = some (.bool false) := by
  rw [fnc_at rfl, body_eq Try.func23 rfl rfl]
  simp [argsσ, Option.bind_assoc]
  refine may_bad (badE lp n a b c) (by rw [badE_len]; omega) a b c _ _ n 0 [] _ ?_ ?_ (by simp) (by simp [badE_len]) (by simp) ?_
  · intro j _ hj
    refine ⟨lp[j]'(by omega), ?_⟩
    unfold badE
    rw [List.getElem?_set_ne (by omega)]
    rw [List.getElem?_map, List.getElem?_eq_getElem (by omega)]; rfl
  · unfold badE; rw [Nat.zero_add, List.getElem?_set_self (by simpa using hn)]
  · intro σ' H' h2
    simp [h2, Vm.results]
theorem check_bad (lp : List Fu) (hl : lp.length < 2 ^ 62) (n : Nat) (hn : n < lp.length) (a b c : Int) : fnc Try.prog cfg R 11 [.sl 4 (badE lp n a b c) false] = some (.tup [I 0, I 0, I 1]) := by
  have hM := cmay_bad lp hl n hn a b c
  rw [fnc_at rfl, body_eq Try.func11 rfl rfl]
  simp [argsσ, Vm.results, hM]
theorem cdepths_bad (lp : List Fu) (hl : lp.length < 2 ^ 62) (n : Nat) (hn : n < lp.length) (a b c : Int) (fn : Int) : fnc Try.prog cfg R 14 [.sl 4 (badE lp n a b c) false, I fn] = some .snil := by
  have hC := check_bad lp hl n hn a b c
  rw [fnc_at rfl, body_eq Try.func14 rfl rfl]
  simp [argsσ, Vm.results, hC]
/-- an instruction in whose stead another one stands -/
def newI (re im : Int) (x : Instr) : Instr :=
  if x.op = 0 then ⟨0, re, im⟩ else if x.op = 16 then ⟨16, 16 + re.tmod 240, 0⟩
  else if x.op = 3 ∨ x.op = 4 ∨ x.op = 5 ∨ x.op = 6 then ⟨3 + im.tmod 4, 0, 0⟩ else x
theorem newI_like {re im : Int} (hr : 0 ≤ re ∧ re ≤ 250) (hi : 0 ≤ im ∧ im ≤ 250) {x : Instr} (hx : imay x = true) : ILike x (newI re im x) := by
  obtain ⟨op, a, b⟩ := x
  have hr1 := Int.tmod_nonneg 240 hr.1
  have hr2 := Int.tmod_lt_of_pos re (show (0 : Int) < 240 by decide)
  have hi1 := Int.tmod_nonneg 4 hi.1
  have hi2 := Int.tmod_lt_of_pos im (show (0 : Int) < 4 by decide)
  have hx' := imay_iff.1 hx
  unfold newI
  dsimp only at *
  generalize re.tmod 240 = r at *
  generalize im.tmod 4 = q at *
  by_cases h0 : op = 0
  · subst h0
    rw [if_pos rfl]
    refine ⟨?_, fun _ _ => rfl, fun _ => rfl, rfl, fun _ => rfl⟩
    rw [hx]; exact (show imay ⟨0, re, im⟩ = true from imay_iff.2 ⟨show (0 : Int) ≤ 0 by decide, show (0 : Int) < 17 by decide, hr.1, hr.2, hi.1, hi.2⟩).symm
  rw [if_neg h0]
  by_cases h16 : op = 16
  · subst h16
    rw [if_pos rfl]
    refine ⟨?_, fun _ _ => rfl, fun _ => rfl, rfl, fun _ => rfl⟩
    rw [hx]; exact (show imay ⟨16, 16 + r, 0⟩ = true from imay_iff.2 ⟨show (0 : Int) ≤ 16 by decide, show (16 : Int) < 17 by decide, show 16 ≤ 16 + r by omega, show 16 + r ≤ 255 by omega, show (0 : Int) ≤ 0 by decide, show (0 : Int) ≤ 0 by decide⟩).symm
  rw [if_neg h16]
  by_cases h3 : op = 3 ∨ op = 4 ∨ op = 5 ∨ op = 6
  · rw [if_pos h3]
    have hq : q = 0 ∨ q = 1 ∨ q = 2 ∨ q = 3 := by omega
    rcases h3 with rfl | rfl | rfl | rfl <;> rcases hq with rfl | rfl | rfl | rfl <;> exact ⟨by rw [hx]; decide, fun _ _ => rfl, fun _ => rfl, rfl, fun _ => rfl⟩
  · rw [if_neg h3]; exact .refl _
theorem fields_loop (re im : Int) (hr : 0 ≤ re ∧ re ≤ 250) (hi : 0 ≤ im ∧ im ≤ 250) (a0 a2 a7 : D) (o1 : Ob) (a b c : Int) (N : Nat) (hN : N < 2 ^ 62) {X : Type} (K : Ex × St → Option X) (Q : Option X → Prop) : ∀ (rest : List Instr) (done : List D) (i : Nat) (E : List D) (σ : Nat → D), E = done ++ rest.map encInstr → done.length = i → E.length = N →
    σ 0 = a0 → σ 2 = a2 → σ 4 = .ptr 0 0 0 0 → σ 7 = a7 → σ 8 = .ptr 2 0 0 0 → σ 9 = I i →
    (∀ σ' H', σ' 6 = .bool true → Q (K (.ret, ⟨σ', H', 160⟩))) →
    (∀ σ', (∀ x ∈ rest, imay x = true) → σ' 0 = a0 → σ' 2 = a2 → σ' 7 = a7 → σ' 8 = .ptr 2 0 0 0 → Q (K (.exit 0, ⟨σ', [⟨0, 2, [.agg [I re, I im]], 0⟩, o1, ⟨0, 4, [.agg [I a, I b, I c, .own 3 3 0 0 N]], 0⟩, ⟨0, 3, done ++ (rest.map (newI re im)).map encInstr, 0⟩], 160⟩))) →
    Q ((W Try.prog cfg (.loop (loopAt Try.f7 7)) ⟨σ, [⟨0, 2, [.agg [I re, I im]], 0⟩, o1, ⟨0, 4, [.agg [I a, I b, I c, .own 3 3 0 0 N]], 0⟩, ⟨0, 3, E, 0⟩], 160⟩).bind K) := by
  intro rest
  induction rest with
  | nil =>
    intro done i E σ hE hd hEN s0 s2 s4 s7 s8 s9 h1 h2
    have hi : ¬ (i < N) := by subst hE; simp at hEN; omega
    rw [Wloop]
    conv => arg 1; arg 1; arg 1; simp [loopAt, loopIn, headId, Try.f7, s8, s9, hi]
    rw [hE]
    exact h2 _ (by simp) (by simp [s0]) (by simp [s2]) (by simp [s7]) (by simp [s8])
  | cons x rest ih =>
    intro done i E σ hE hd hEN s0 s2 s4 s7 s8 s9 h1 h2
    have hi' : i < N := by subst hE; simp at hEN; omega
    have hi'' : i < E.length := by omega
    have hlt : decide (i < N) = true := dt hi'
    have hx := idxD_nat .i64 hi'
    have hg : E[i]? = some (encInstr x) := by
      rw [hE, List.getElem?_append_right (by omega), hd, Nat.sub_self]; rfl
    have hw : IntKind.i64.wrap ((i : Int) + 1) = ((i + 1 : Nat) : Int) := wr (by omega) (by omega)
    have hM := rmay6_spec x
    have hr1 := Int.tmod_nonneg 240 hr.1
    have hr2 := Int.tmod_lt_of_pos re (show (0 : Int) < 240 by decide)
    have hi1 := Int.tmod_nonneg 4 hi.1
    have hi2 := Int.tmod_lt_of_pos im (show (0 : Int) < 4 by decide)
    have w1 : IntKind.i64.wrap (16 + re.tmod 240) = 16 + re.tmod 240 := wr (by omega) (by omega)
    have w2 : IntKind.i64.wrap (3 + im.tmod 4) = 3 + im.tmod 4 := wr (by omega) (by omega)
    have q1 := bin_rem (P := Try.prog)
    have step : ∀ y : Instr, newI re im x = y → imay x = true → ∀ σ2 : Nat → D, σ2 0 = a0 → σ2 2 = a2 → σ2 4 = .ptr 0 0 0 0 → σ2 7 = a7 → σ2 8 = .ptr 2 0 0 0 → σ2 9 = I (i + 1 : Nat) →
        Q ((W Try.prog cfg (.loop (loopAt Try.f7 7)) ⟨σ2, [⟨0, 2, [.agg [I re, I im]], 0⟩, o1, ⟨0, 4, [.agg [I a, I b, I c, .own 3 3 0 0 N]], 0⟩, ⟨0, 3, E.set i (encInstr y), 0⟩], 160⟩).bind K) := by
      intro y hy hmx σ2 t0 t2 t4 t7 t8 t9
      refine ih (done ++ [encInstr y]) (i + 1) _ σ2 ?_ (by simp [hd]) (by rw [List.length_set]; exact hEN) t0 t2 t4 t7 t8 t9 h1 ?_
      · subst hd
        rw [hE, List.map_cons, List.set_append_right _ _ (Nat.le_refl _), Nat.sub_self, List.set_cons_zero, List.append_assoc]; rfl
      · intro σ' hall
        have e : done ++ [encInstr y] ++ (rest.map (newI re im)).map encInstr = done ++ ((x :: rest).map (newI re im)).map encInstr := by
          rw [List.map_cons, hy, List.map_cons, List.append_assoc]; rfl
        rw [e]
        refine h2 σ' fun z hz => ?_
        rcases List.mem_cons.1 hz with rfl | hz
        · exact hmx
        · exact hall z hz
    have same : E.set i (encInstr x) = E := by
      apply List.ext_getElem?
      intro j
      rw [List.getElem?_set]
      split
      · rename_i h; subst h; first | exact hg.symm | (rw [if_pos hi'']; exact hg.symm)
      · rfl
    cases hmx : imay x with
    | false =>
      rw [hmx] at hM
      rw [Wloop]
      conv => arg 1; arg 1; arg 1; simp [loopAt, loopIn, headId, Try.f7, s8, s9, hlt, hx, hg, hM]
      exact h1 _ _ (by simp)
    | true =>
      rw [hmx] at hM
      by_cases c0 : x.op = 0
      · have b0 : decide (x.op = 0) = true := dt c0
        rw [Wloop]
        conv => arg 1; arg 1; arg 1; simp [loopAt, loopIn, headId, Try.f7, s4, s8, s9, hlt, hx, hg, hM, hi'', hw, -getElem?_pos, b0, bin_rem, w1, w2]
        rw [Option.bind_some, loopK_normal]
        exact step ⟨0, re, im⟩ (by unfold newI; rw [if_pos c0]) hmx _ (by simp [s0]) (by simp [s2]) (by simp [s4]) (by simp [s7]) (by simp [s8]) (by simp)
      by_cases c16 : x.op = 16
      · have b16 : decide (x.op = 16) = true := dt c16
        have b0 : decide (x.op = 0) = false := df c0
        rw [Wloop]
        conv => arg 1; arg 1; arg 1; simp [loopAt, loopIn, headId, Try.f7, s4, s8, s9, hlt, hx, hg, hM, hi'', hw, -getElem?_pos, b0, b16, bin_rem, w1, w2]
        rw [Option.bind_some, loopK_normal]
        exact step ⟨16, 16 + re.tmod 240, 0⟩ (by unfold newI; rw [if_neg c0, if_pos c16]) hmx _ (by simp [s0]) (by simp [s2]) (by simp [s4]) (by simp [s7]) (by simp [s8]) (by simp)
      by_cases c3 : x.op = 3
      · have b3 : decide (x.op = 3) = true := dt c3
        have b0 : decide (x.op = 0) = false := df c0
        have b16 : decide (x.op = 16) = false := df c16
        rw [Wloop]
        conv => arg 1; arg 1; arg 1; simp [loopAt, loopIn, headId, Try.f7, s4, s8, s9, hlt, hx, hg, hM, hi'', hw, -getElem?_pos, b0, b16, b3, bin_rem, w1, w2]
        rw [Option.bind_some, loopK_normal]
        exact step ⟨3 + im.tmod 4, 0, 0⟩ (by unfold newI; rw [if_neg c0, if_neg c16, if_pos (by omega)]) hmx _ (by simp [s0]) (by simp [s2]) (by simp [s4]) (by simp [s7]) (by simp [s8]) (by simp)
      by_cases c4 : x.op = 4
      · have b4 : decide (x.op = 4) = true := dt c4
        have b0 : decide (x.op = 0) = false := df c0
        have b16 : decide (x.op = 16) = false := df c16
        have b3 : decide (x.op = 3) = false := df c3
        rw [Wloop]
        conv => arg 1; arg 1; arg 1; simp [loopAt, loopIn, headId, Try.f7, s4, s8, s9, hlt, hx, hg, hM, hi'', hw, -getElem?_pos, b0, b16, b3, b4, bin_rem, w1, w2]
        rw [Option.bind_some, loopK_normal]
        exact step ⟨3 + im.tmod 4, 0, 0⟩ (by unfold newI; rw [if_neg c0, if_neg c16, if_pos (by omega)]) hmx _ (by simp [s0]) (by simp [s2]) (by simp [s4]) (by simp [s7]) (by simp [s8]) (by simp)
      by_cases c5 : x.op = 5
      · have b5 : decide (x.op = 5) = true := dt c5
        have b0 : decide (x.op = 0) = false := df c0
        have b16 : decide (x.op = 16) = false := df c16
        have b3 : decide (x.op = 3) = false := df c3
        have b4 : decide (x.op = 4) = false := df c4
        rw [Wloop]
        conv => arg 1; arg 1; arg 1; simp [loopAt, loopIn, headId, Try.f7, s4, s8, s9, hlt, hx, hg, hM, hi'', hw, -getElem?_pos, b0, b16, b3, b4, b5, bin_rem, w1, w2]
        rw [Option.bind_some, loopK_normal]
        exact step ⟨3 + im.tmod 4, 0, 0⟩ (by unfold newI; rw [if_neg c0, if_neg c16, if_pos (by omega)]) hmx _ (by simp [s0]) (by simp [s2]) (by simp [s4]) (by simp [s7]) (by simp [s8]) (by simp)
      by_cases c6 : x.op = 6
      · have b6 : decide (x.op = 6) = true := dt c6
        have b0 : decide (x.op = 0) = false := df c0
        have b16 : decide (x.op = 16) = false := df c16
        have b3 : decide (x.op = 3) = false := df c3
        have b4 : decide (x.op = 4) = false := df c4
        have b5 : decide (x.op = 5) = false := df c5
        rw [Wloop]
        conv => arg 1; arg 1; arg 1; simp [loopAt, loopIn, headId, Try.f7, s4, s8, s9, hlt, hx, hg, hM, hi'', hw, -getElem?_pos, b0, b16, b3, b4, b5, b6, bin_rem, w1, w2]
        rw [Option.bind_some, loopK_normal]
        exact step ⟨3 + im.tmod 4, 0, 0⟩ (by unfold newI; rw [if_neg c0, if_neg c16, if_pos (by omega)]) hmx _ (by simp [s0]) (by simp [s2]) (by simp [s4]) (by simp [s7]) (by simp [s8]) (by simp)
      have b0 : decide (x.op = 0) = false := df c0
      have b16 : decide (x.op = 16) = false := df c16
      have b3 : decide (x.op = 3) = false := df c3
      have b4 : decide (x.op = 4) = false := df c4
      have b5 : decide (x.op = 5) = false := df c5
      have b6 : decide (x.op = 6) = false := df c6
      rw [Wloop]
      conv => arg 1; arg 1; arg 1; simp [loopAt, loopIn, headId, Try.f7, s4, s8, s9, hlt, hx, hg, hM, hi'', hw, -getElem?_pos, b0, b16, b3, b4, b5, b6]
      rw [Option.bind_some, loopK_normal]
      have st := step x (by unfold newI; rw [if_neg c0, if_neg c16, if_neg (by omega)]) hmx
      rw [same] at st
      exact st _ (by simp [s0]) (by simp [s2]) (by simp [s4]) (by simp [s7]) (by simp [s8]) (by simp)
end Go.Proofs.YtcbmmiglccmekaaW.Rg
