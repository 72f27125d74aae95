/- One task behind the other: the document. No conditions. -/
import Derived.Test.YtlpadffinfijgaaGreatVmQL0
import Derived.Test.YtlpadffinfijgaaGreatVmT10
set_option linter.unusedVariables false
set_option linter.unusedSimpArgs false
set_option maxRecDepth 10000
namespace Go.Proofs.YtlpadffinfijgaaGreatW.Rg
open Go.Proofs.YtlpadffinfijgaaGreatW.Vm Go.Proofs.YtlpadffinfijgaaGreatW.Md
open Go Go.Proofs
section
variable {p : Option (List Fu)}
/-- what the document's run gives -/
def RrOut (p : Option (List Fu)) (g : Nat) : Prop := ∀ f n d, Sf (p.getD []) f → n < g → n < 2 ^ 60 → IsF d f →
  fnc Tryz.prog cfg R 16 [encProg p, d, I n] = some (match runS (p.getD []) g f n with | some (o, m) => .tup [encO o, I m] | none => .tup [encO o0, I (-1)])
theorem rr_loop (hg : good (p.getD []) = true) (hb : Bnd (p.getD [])) : ∀ (g : Nat) (f : Fr) (n : Nat) (d : D) (H : List Ob) (σ : Nat → D) {X : Type} (K : Ex × St → Option X) (Q : Option X → Prop), Sf (p.getD []) f → n < g → n < 2 ^ 60 → IsF d f →
    H[0]? = some ⟨0, 16, [d], 0⟩ → (∃ x y z, H[1]? = some ⟨0, 3, [.agg [x, y, z]], 0⟩) → σ 0 = encProg p → σ 2 = I n → σ 4 = .ptr 0 0 0 0 → σ 6 = .ptr 1 0 0 0 →
    (∀ σ' H' o (k : Int), (match runS (p.getD []) g f n with | some (o, m) => (o, (m : Int)) | none => (o0, -1)) = (o, k) → H'[1]? = some ⟨0, 3, [encO o], 0⟩ → σ' 6 = .ptr 1 0 0 0 → σ' 7 = I k → Q (K (.ret, ⟨σ', H', 74⟩))) →
    Q ((W Tryz.prog cfg (.loop (loopAt Tryz.f16 1)) ⟨σ, H, 74⟩).bind K)
  | 0, f, n, d, H, σ, X, K, Q, S, hn, hn2, hd, h0, h1, s0, s2, s4, s6, he => by omega
  | g + 1, f, n, d, H, σ, X, K, Q, S, hn, hn2, hd, h0, ⟨x, y, z, h1⟩, s0, s2, s4, s6, he => by
    have ih := rr_loop hg hb g
    have l0 := hlt h0
    have l1 := hlt h1
    have fnc_g : RrOut p g := by
      intro f n d S hn hn2 hd
      have i0 := hd
      obtain ⟨a, b, c, rfl, ga, gb, gc⟩ := hd
      rw [fnc_at rfl, body_eq Tryz.func16 rfl rfl]
      simp [argsσ, Option.bind_assoc, -getElem?_pos]
      refine ih f n _ [⟨0, 16, [frC f (encL 2 encV a) (encL 2 encV b) (encL 6 encSlt c)], 0⟩, ⟨0, 3, [.agg [I 0, I 0, I 0]], 0⟩] _ _ (fun o => o = some _) S hn hn2 i0 rfl ⟨_, _, _, rfl⟩ ?_ ?_ ?_ ?_ ?_
      · simp [argsσ]
      · simp [argsσ]
      · simp
      · simp
      · intro σ' H' o k hk h1 t6 t7
        simp [Vm.results, h1, t6, t7, -getElem?_pos]
        cases hr : runS (p.getD []) g f n with
        | none => rw [hr] at hk; cases hk; rfl
        | some q => obtain ⟨o', m⟩ := q; rw [hr] at hk; cases hk; rfl
    rw [Wloop]
    by_cases h0n : n = 0
    · subst h0n
      conv => arg 1; arg 1; arg 1; simp [loopAt, loopIn, headId, Tryz.f16, s0, s2, s4, s6, h0, h1, l0, l1, -getElem?_pos]
      refine he _ _ o0 (-1) ?_ (by rw [gs0 l1]; rfl) (by simp [s6]) (by simp)
      unfold runS
      rw [if_pos rfl]
    obtain ⟨l, rfl⟩ : ∃ l, n = l + 1 := ⟨n - 1, by omega⟩
    have dn : decide (((l : Int) + 1) = 0) = false := df (by omega)
    have dn' : ¬ (((l : Int) + 1) = 0) := by omega
    have wl : IntKind.i64.wrap (((l : Int) + 1) - 1) = (l : Int) := by rw [wr (by omega) (by omega)]; omega
    have wl2 : IntKind.i64.wrap (l : Int) = (l : Int) := wr (by omega) (by omega)
    obtain ⟨b1, b2⟩ := good_bnd hg
    obtain ⟨q1, q2, q3⟩ := sf_len hg S
    have i0 := hd
    have hoB : ∀ x, offP (p.getD []) x ≤ 2 ^ 63 - 1 := fun x => by
      unfold offP
      split
      · cases hx : (p.getD [])[x.a.toNat]? with
        | none => simp
        | some y =>
          have := fmay_head (mayP_f (good_iff.1 hg).1 (List.mem_of_getElem? hx))
          simp only [Option.map_some, Option.getD_some]
          omega
      · have := off6_le x.op; omega
    obtain ⟨d1, d2, e1, i1, i2⟩ := rdo_spec p f d hd (by omega) (by omega) (by omega) b1 (by omega) hoB
    obtain ⟨r1, r2, r3, r4⟩ := do_lens hg S
    obtain ⟨a, b, c, rfl, ga, gb, gc⟩ := hd
    have i1' := i1
    obtain ⟨a', b', c', rfl, ga', gb', gc'⟩ := i1
    obtain ⟨A', rfl, gA⟩ := i2
    have hS := sf_do hg S
    have hrn := still_do (p.getD []) f
    have hrs : runS (p.getD []) (g + 1) f (l + 1) = if (doF (p.getD []) f).2.kind = 2 then
      match runS (p.getD []) g ((newF (p.getD []) (doF (p.getD []) f).2.fn (doF (p.getD []) f).2.args (doF (p.getD []) f).2.seed).getD fr0) l with
      | none => none
      | some (o, m) => runS (p.getD []) g (giveF (doF (p.getD []) f).1 (doF (p.getD []) f).2.slot o).1 m
      else if (doF (p.getD []) f).2.kind = 1 then runS (p.getD []) g (doF (p.getD []) f).1 l else some ((finF (doF (p.getD []) f).1).1, l) := by
      rw [runS, if_neg (by omega), Nat.add_sub_cancel]; rfl
    generalize doF (p.getD []) f = R1 at *
    obtain ⟨f1, c1⟩ := R1
    simp only at *
    have es : ∀ (T : List Ob) (o : Ob), (H ++ T).set 0 o = H.set 0 o ++ T := fun T o => set_lt l0 o
    have es2 : ∀ (T : List Ob) (o o' : Ob), (H.set 0 o ++ T).set 0 o' = H.set 0 o' ++ T := fun T o o' => by rw [set_lt (by simpa using l0), List.set_set]
    have g0 : ∀ T : List Ob, (H ++ T)[0]? = some ⟨0, 16, [frC f (encL 2 encV a) (encL 2 encV b) (encL 6 encSlt c)], 0⟩ := fun T => by rw [get_lt l0]; exact h0
    have g1 : ∀ (T : List Ob) (o : Ob), (H.set 0 o ++ T)[1]? = some ⟨0, 3, [.agg [x, y, z]], 0⟩ := fun T o => by rw [get_lt (by simpa using l1), List.getElem?_set_ne (by decide)]; exact h1
    have g00 : ∀ (T : List Ob) (o : Ob), (H.set 0 o ++ T)[0]? = some o := fun T o => by rw [get_lt (by simpa using l0), gs0 l0]
    have l00 : ∀ n, 0 < H.length + n := fun n => by omega
    have l11 : ∀ n, 1 < H.length + n := fun n => by omega
    rcases hS with ⟨k4, k5, k6, k7, k8⟩ | ⟨k1, k5⟩ | ⟨k2, ⟨ch, hc, hS⟩, k5⟩
    · rw [if_neg (by omega), if_neg (by omega)] at hrs
      rw [hrs] at he
      have hfin := rfinal_spec f1 a' b' c' gc' (by omega)
      conv => arg 1; arg 1; arg 1; simp [loopAt, loopIn, headId, Tryz.f16, s0, s2, s4, s6, h0, h1, l0, l1, dn, dn', wl, wl2, e1, es, es2, g0, g1, g00, l00, l11, k4, hfin, -getElem?_pos]
      refine he _ _ (finF f1).1 l rfl ?_ ?_ ?_
      · rw [get_lt (by simpa using l1), gs0 (by simpa using l1)]
      · simp [s6]
      · simp
    · rw [if_neg (by omega), if_pos k1] at hrs
      rw [hrs] at he
      conv => arg 1; arg 1; arg 1; simp [loopAt, loopIn, headId, Tryz.f16, s0, s2, s4, s6, h0, h1, l0, l1, dn, dn', wl, wl2, e1, es, es2, g0, g1, g00, l00, l11, k1, -getElem?_pos]
      rw [Option.bind_some, loopK_normal]
      refine ih f1 l _ _ _ K Q k5 (by omega) (by omega) i1' ?_ ?_ ?_ ?_ ?_ ?_ he
      · rw [get_lt (by simpa using l0), gs0 l0]
      · exact ⟨x, y, z, by rw [get_lt (by simpa using l1), List.getElem?_set_ne (by decide)]; exact h1⟩
      · simp [s0]
      · simp
      · simp [s4]
      · simp [s6]
    · rw [if_pos k2, hc, Option.getD_some] at hrs
      obtain ⟨dc, e3, ic⟩ := rnew_spec p hb (by omega) c1.fn A' c1.seed (by rw [gA]; omega)
      rw [gA, hc] at e3 ic
      rw [Option.getD_some] at ic
      have e4 := fnc_g ch l dc hS (by omega) (by omega) ic
      obtain ⟨S1, L1, Z1, rfl, j1, j2, j3⟩ := ic
      cases hr1 : runS (p.getD []) g ch l with
      | none =>
        rw [hr1] at e4 hrs
        rw [hrs] at he
        conv => arg 1; arg 1; arg 1; simp [loopAt, loopIn, headId, Tryz.f16, s0, s2, s4, s6, h0, h1, l0, l1, dn, dn', wl, wl2, e1, es, es2, g0, g1, g00, l00, l11, k2, e3, e4, -getElem?_pos]
        refine he _ _ o0 (-1) rfl ?_ ?_ ?_
        · rw [get_lt (by simpa using l1), gs0 (by simpa using l1)]; rfl
        · simp [s6]
        · simp
      | some q =>
        obtain ⟨o2, m2⟩ := q
        rw [hr1] at e4 hrs
        simp only at hrs
        rw [hrs] at he
        obtain ⟨ho2, hm2⟩ := runS_ok hg _ _ _ _ _ hS hr1
        obtain ⟨dg, e5, ig⟩ := rgive_spec f1 a' b' c' ga' gb' gc' c1.slot o2 (by omega) (by omega) (by omega)
        have ig0 := ig
        obtain ⟨S2, L2, Z2, rfl, j4, j5, j6⟩ := ig
        have dm : decide ((m2 : Int) < 0) = false := df (by omega)
        have dm' : ¬ ((m2 : Int) < 0) := by omega
        simp only at e4
        conv => arg 1; arg 1; arg 1; simp [loopAt, loopIn, headId, Tryz.f16, s0, s2, s4, s6, h0, h1, l0, l1, dn, dn', wl, wl2, e1, es, es2, g0, g1, g00, l00, l11, k2, e3, e4, e5, dm, dm', -getElem?_pos]
        rw [Option.bind_some, loopK_normal]
        refine ih (giveF f1 c1.slot o2).1 m2 _ _ _ K Q (k5 o2 ho2) (by omega) (by omega) ig0 ?_ ?_ ?_ ?_ ?_ ?_ he
        · rw [get_lt (by simpa using l0), gs0 l0]
        · exact ⟨x, y, z, by rw [get_lt (by simpa using l1), List.getElem?_set_ne (by decide)]; exact h1⟩
        · simp [s0]
        · simp
        · simp [s4]
        · simp [s6]
theorem rr_out (hg : good (p.getD []) = true) (hb : Bnd (p.getD [])) : ∀ g, RrOut p g
  | 0 => fun f n d S hn => by omega
  | g + 1 => by
    intro f n d S hn hn2 hd
    have i0 := hd
    obtain ⟨a, b, c, rfl, ga, gb, gc⟩ := hd
    rw [fnc_at rfl, body_eq Tryz.func16 rfl rfl]
    simp [argsσ, Option.bind_assoc, -getElem?_pos]
    refine rr_loop hg hb (g + 1) f n _ [⟨0, 16, [frC f (encL 2 encV a) (encL 2 encV b) (encL 6 encSlt c)], 0⟩, ⟨0, 3, [.agg [I 0, I 0, I 0]], 0⟩] _ _ (fun o => o = some _) S hn hn2 i0 rfl ⟨_, _, _, rfl⟩ ?_ ?_ ?_ ?_ ?_
    · simp [argsσ]
    · simp [argsσ]
    · simp
    · simp
    · intro σ' H' o k hk h1 t6 t7
      simp [Vm.results, h1, t6, t7, -getElem?_pos]
      cases hr : runS (p.getD []) (g + 1) f n with
      | none => rw [hr] at hk; cases hk; rfl
      | some q => obtain ⟨o', m⟩ := q; rw [hr] at hk; cases hk; rfl
end
end Go.Proofs.YtlpadffinfijgaaGreatW.Rg
