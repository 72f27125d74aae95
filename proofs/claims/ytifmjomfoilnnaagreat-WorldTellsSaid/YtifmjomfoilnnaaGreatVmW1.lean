/- Fresh workers. No conditions. -/
import Derived.Test.YtifmjomfoilnnaaGreatVmWE
import Derived.Test.YtifmjomfoilnnaaGreatVmXC
set_option linter.unusedVariables false
set_option linter.unusedSimpArgs false
namespace Go.Proofs.YtifmjomfoilnnaaGreatW.Rg
open Go.Proofs.YtifmjomfoilnnaaGreatW.Vm Go.Proofs.YtifmjomfoilnnaaGreatW.Md
open Go.Proofs.YtifmjomfoilnnaaGreatW.Rn (Ring encRing newRing noRing inb)
open Go Go.Proofs
def noR : Rf := ⟨-1, 0⟩
theorem win_spec (n a b : Int) : fnc Tryz.prog cfg R 35 [I n, I a, I b] = some (.bool (decide (a ≤ n) && decide (n ≤ b))) := by
  rw [fnc_at rfl, body_eq Tryz.func35 rfl rfl]
  cases k1 : decide (a ≤ n)
  · simp [argsσ, Vm.results, k1]
  · simp [argsσ, Vm.results, k1]
theorem noref_spec : fnc Tryz.prog cfg R 40 [] = some (encRf noR) := by
  rw [fnc_at rfl, body_eq Tryz.func40 rfl rfl]
  simp [argsσ, Vm.results, noR]
theorem rnone_spec : fnc Tryz.prog cfg R 25 [] = some (encRf noR) := by
  rw [fnc_at rfl, body_eq Tryz.func25 rfl rfl]
  simp [argsσ, Vm.results, noR]
theorem bs_ring (dst ty pos af g st ps) : opD Tryz.prog cfg R ⟨dst, .buildSlice 33 1 ps, ty, pos, af, g⟩ st = (evps st.σ ps.toList).bind fun ds => (fillD 4 true (List.replicate 1 (.agg [.snil, I 0, I 0, I 0])) ds).map fun els => (.own 4 st.h.length 0 0 1, newOb st.h 4 els) :=
  op_bslice (P := Tryz.prog) (cfg := cfg) (run := R) dst ty pos af g st (z := 0) (n := 1) ps el33 sz54 ag54 ze54 rfl (by simp) (by decide) (by decide)
/-- what fresh workers are, in memory of one's own -/
structure Fw (H : List Ob) (n : Nat) (r : Ring) (A B : D) (k : Nat) : Prop where
  a : IsS H 4 ((List.replicate n r).map encRing) A
  b : IsS H 2 ((List.replicate n noR).map encRf) B
  lo : ∀ j, At A j ∨ At B j → k ≤ j
  d : ∀ j, At A j → ¬ At B j
theorem Fw.keep {H H' : List Ob} {n : Nat} {r : Ring} {A B : D} {k : Nat} (h : Fw H n r A B k) (hk : ∀ j, j < H.length → H'[j]? = H[j]?) : Fw H' n r A B k := ⟨h.a.keep fun i hi => hk i (h.a.lt hi), h.b.keep fun i hi => hk i (h.b.lt hi), h.lo, h.d⟩
theorem Fw.more {H : List Ob} {n : Nat} {r : Ring} {A B : D} {k : Nat} (h : Fw H n r A B k) (hn : n ≤ 64) (hk : k ≤ H.length) (x y : Ob) :
    ∃ A' H3 B' H4, apK 48 4 (H ++ [x, y]) A ((List.replicate n r).map encRing) [encRing r] = some (A', H3) ∧ apK 16 2 H3 B ((List.replicate n noR).map encRf) [encRf noR] = some (B', H4) ∧ elsZ (H ++ [x, y]) 4 A = some ((List.replicate n r).map encRing) ∧ elsZ H3 2 B = some ((List.replicate n noR).map encRf) ∧ Fw H4 (n + 1) r A' B' k ∧ (∀ j, j < k → H4[j]? = H[j]?) ∧ H.length ≤ H4.length := by
  obtain ⟨A', H3, e1, i1, b1, p1, l1⟩ := (h.a.app [x, y]).pushD 48 [encRing r] (by simp; omega)
  simp only [List.length_append, List.length_cons, List.length_nil] at b1 p1 l1
  have ib : IsS H3 2 ((List.replicate n noR).map encRf) B := (h.b.app [x, y]).keep fun i hi => p1 i (by have := h.b.lt hi; omega) (fun e => h.d i e hi)
  obtain ⟨B', H4, e2, i2, b2, p2, l2⟩ := ib.pushD 16 [encRf noR] (by simp; omega)
  refine ⟨A', H3, B', H4, e1, e2, (h.a.app [x, y]).els, ib.els, ⟨?_, ?_, fun j hj => ?_, fun j h1 h2 => ?_⟩, fun j hj => ?_, by omega⟩
  · have : IsS H4 4 ((List.replicate n r).map encRing ++ [encRing r]) A' := i1.keep fun i hi => p2 i (i1.lt hi) (fun e => by
      rcases b1 i hi with h3 | h3
      · exact h.d i h3 e
      · have := h.b.lt e; omega)
    rw [List.replicate_succ', List.map_append]; exact this
  · rw [List.replicate_succ', List.map_append]; exact i2
  · rcases hj with h1 | h1
    · rcases b1 j h1 with h3 | h3
      · exact h.lo j (.inl h3)
      · omega
    · rcases b2 j h1 with h3 | h3
      · exact h.lo j (.inr h3)
      · omega
  · rcases b2 j h2 with h3 | h3
    · rcases b1 j h1 with h4 | h4
      · exact h.d j h4 h3
      · have := h.b.lt h3; omega
    · have := i1.lt h1; omega
  · rw [p2 j (by omega) (fun e => by have := h.lo j (.inr e); omega), p1 j (by omega) (fun e => by have := h.lo j (.inl e); omega), List.getElem?_append_left (by omega)]
theorem fresh_loop (n : Nat) (hn : n ≤ 64) (fu fm m : Int) (r : Ring) (hr : fnc Tryz.prog cfg R 39 [I 1, I m] = some (.tup [encRing r, .bool true])) (k0 : Nat) {X : Type} (K : Ex × St → Option X) (Q : Option X → Prop) : ∀ (k i : Nat) (σ : Nat → D) (H : List Ob) (A B : D), i + k = n →
    σ 3 = .ptr k0 0 0 0 → σ 6 = A → σ 7 = B → σ 13 = I n → σ 14 = I i → H[k0]? = some ⟨0, 3, [.agg [I fu, I fm, I m]], 0⟩ → Fw H i r A B (k0 + 1) →
    (∀ σ' H' A' B', σ' 6 = A' → σ' 7 = B' → Fw H' n r A' B' (k0 + 1) → (∀ j, j ≤ k0 → H'[j]? = H[j]?) → H.length ≤ H'.length → Q (K (.exit 0, ⟨σ', H', 35⟩))) →
    Q ((W Tryz.prog cfg (.loop (loopAt Tryz.f13 6)) ⟨σ, H, 35⟩).bind K) := by
  intro k
  induction k with
  | zero =>
    intro i σ H A B hi s3 s6 s7 s13 s14 g0 F hK
    have h0 : decide (i < n) = false := df (by omega)
    have e : i = n := by omega
    subst e
    rw [Wloop]
    conv => arg 1; arg 1; arg 1; simp [loopAt, loopIn, headId, Tryz.f13, s13, s14, h0]
    exact hK _ H A B (by simp [s6]) (by simp [s7]) F (fun j _ => rfl) (Nat.le_refl _)
  | succ k ih =>
    intro i σ H A B hi s3 s6 s7 s13 s14 g0 F hK
    have hlt : decide (i < n) = true := dt (by omega)
    have hw : IntKind.i64.wrap ((i : Int) + 1) = ((i + 1 : Nat) : Int) := wr (by omega) (by omega)
    have hk0 := (List.getElem?_eq_some_iff.1 g0).1
    obtain ⟨A', H3, B', H4, a1, a2, es1, es2, F', kp, hl4⟩ := F.more (by omega) (by omega) ⟨0, 4, [encRing r], 0⟩ ⟨0, 4, [encRing r], 0⟩
    have ql : ∀ o : Ob, (H ++ [o])[H.length]? = some o := fun o => by simp
    have qs := sgx H
    have qn : ∀ o o' : Ob, (H ++ [o, o'])[H.length + 1]? = some o' := fun o o' => by simp
    have en : ∀ o : Ob, elsZ (H ++ [o, ⟨0, 4, [encRing r], 0⟩]) 4 (.own 4 (H.length + 1) 0 0 1) = some [encRing r] := fun o => by simp [elsZ, elsOf]
    have n1 := F'.a.one; have c1 := F'.a.cells; have n2 := F'.b.one; have c2 := F'.b.cells
    have n3 := F.a.one; have c3 := F.a.cells; have n4 := F.b.one; have c4 := F.b.cells
    have nr := noref_spec
    rw [Wloop]
    conv => arg 1; arg 1; arg 1; simp [loopAt, loopIn, headId, Tryz.f13, bs_ring, List.replicate, s3, s6, s7, s13, s14, hlt, g0, hr, nr, a1, a2, es1, es2, en, ql, qs, qn, n1, c1, n2, c2, n3, c3, n4, c4, hw, -List.map_append, -List.map_replicate, -getElem?_pos]
    rw [Option.bind_some, loopK_normal]
    exact ih (i + 1) _ H4 A' B' (by omega) (by simp [s3]) (by simp) (by simp) (by simp [s13]) (by simp) (by rw [kp k0 (by omega), g0]) F' (fun σ' H' A'' B'' t6 t7 F'' kq hl => hK σ' H' A'' B'' t6 t7 F'' (fun j hj => by rw [kq j hj, kp j (by omega)]) (by omega))
theorem fresh_ok (n : Nat) (h1 : 1 ≤ n) (hn : n ≤ 64) (fu fm m : Int) (hm : inb m 1 1024 = true) (H : List Ob) :
    ∃ A B H', body Tryz.prog R 13 [I n, .agg [I fu, I fm, I m]] H = some (.tup [A, B], H') ∧ Fw H' n (newRing 1 m) A B (H.length + 1) ∧ (∀ j, j < H.length → H'[j]? = H[j]?) ∧ H.length ≤ H'.length := by
  have hb : 1 ≤ m ∧ m ≤ 1024 := by simp [inb] at hm; omega
  have hr := Rn.new_ok 1 m hm (by simp [inb]; omega)
  have hin := win_spec n 1 64
  have k1 : decide ((1 : Int) ≤ n) = true := dt (by omega)
  have k2 : decide ((n : Int) ≤ 64) = true := dt (by omega)
  rw [k1, k2] at hin
  generalize newRing 1 m = r at *
  obtain ⟨Q, hQ⟩ : ∃ Q : Option (D × List Ob) → Prop, Q = fun o => ∃ A B H', o = some (.tup [A, B], H') ∧ Fw H' n r A B (H.length + 1) ∧ (∀ j, j < H.length → H'[j]? = H[j]?) ∧ H.length ≤ H'.length := ⟨_, rfl⟩
  suffices h : Q (body Tryz.prog R 13 [I n, .agg [I fu, I fm, I m]] H) by rw [hQ] at h; exact h
  rw [body_eq Tryz.func13 rfl rfl]
  simp [argsσ, hin, Option.bind_assoc]
  refine fresh_loop n hn fu fm m r hr H.length _ Q n 0 _ _ .snil .snil (by omega) (by simp) (by simp) (by simp) (by simp) (by simp) (by simp) ⟨.inl ⟨rfl, rfl⟩, .inl ⟨rfl, rfl⟩, (fun j hj => by rcases hj with h | h <;> cases h), (fun j hj => by cases hj)⟩ ?_
  intro σ' H' A' B' t6 t7 F kp hl
  have n1 := F.a.one; have n2 := F.b.one
  simp only [List.length_append, List.length_cons, List.length_nil] at hl
  rw [hQ]
  refine ⟨A', B', H', by simp [Vm.results, t6, t7, n1, n2], F, fun j hj => by rw [kp j (by omega), List.getElem?_append_left hj], by omega⟩
theorem fresh_no (n fu fm m : Int) (h : ¬ (1 ≤ n ∧ n ≤ 64) ∨ inb m 1 1024 = false) (H : List Ob) :
    ∃ H', body Tryz.prog R 13 [I n, .agg [I fu, I fm, I m]] H = some (.tup [.snil, .snil], H') ∧ (∀ j, j < H.length → H'[j]? = H[j]?) ∧ H.length ≤ H'.length := by
  have hin := win_spec n 1 64
  by_cases hn : 1 ≤ n ∧ n ≤ 64
  · have hm : inb m 1 1024 = false := by
      rcases h with h | h
      · exact absurd hn h
      · exact h
    rw [dt hn.1, dt hn.2] at hin
    have hr := Rn.new_no 1 m (by rw [hm]; rfl)
    obtain ⟨k, rfl⟩ : ∃ k : Nat, n = k := ⟨n.toNat, by omega⟩
    have h0 : decide (0 < k) = true := dt (by omega)
    have h0' : decide ((0 : Int) < (k : Int)) = true := dt (by omega)
    generalize noRing = r at *
    refine ⟨H ++ [⟨0, 3, [.agg [I fu, I fm, I m]], 0⟩, ⟨0, 4, [encRing r], 0⟩], ?_, fun j hj => List.getElem?_append_left hj, by simp⟩
    rw [body_eq Tryz.func13 rfl rfl]
    simp [argsσ, hin, Option.bind_assoc]
    rw [Wloop]
    simp [loopAt, loopIn, headId, Tryz.f13, h0, h0', hr, Vm.results, -getElem?_pos]
  · have hk : (decide (1 ≤ n) && decide (n ≤ 64)) = false := by
      rw [Bool.eq_false_iff]; intro e; simp only [Bool.and_eq_true, decide_eq_true_eq] at e; exact hn e
    rw [hk] at hin
    refine ⟨H ++ [⟨0, 3, [.agg [I fu, I fm, I m]], 0⟩], ?_, fun j hj => List.getElem?_append_left hj, by simp⟩
    rw [body_eq Tryz.func13 rfl rfl]
    simp [argsσ, hin, Vm.results]
end Go.Proofs.YtifmjomfoilnnaaGreatW.Rg
