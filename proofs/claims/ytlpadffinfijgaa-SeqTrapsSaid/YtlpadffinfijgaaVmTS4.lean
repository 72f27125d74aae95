/- The document's reading of texts: programs that trap. No conditions. -/
import Derived.Test.YtlpadffinfijgaaVmTS3
import Derived.Test.YtlpadffinfijgaaVmQL4
set_option linter.unusedVariables false
set_option linter.unusedSimpArgs false
set_option maxRecDepth 100000
namespace Go.Proofs.YtlpadffinfijgaaW.Rg
open Go.Proofs.YtlpadffinfijgaaW.Vm Go.Proofs.YtlpadffinfijgaaW.Md
open Go Go.Proofs
/-- lines are laid -/
inductive LayS : List (List UInt8) → D → List Ob → D → List Ob → Prop
  | nil (p : D) (H : List Ob) : LayS [] p H p H
  | cons {x : List UInt8} {l : List (List UInt8)} {p p1 p2 : D} {H H1 H2 : List Ob} (h : body Try.prog R 44 [p, .str (bstr x)] H = some (.tup [p1, .bool true], H1)) (r : LayS l p1 H1 p2 H2) : LayS (x :: l) p H p2 H2
theorem LayS.app {l1 l2 : List (List UInt8)} {p p1 p2 : D} {H H1 H2 : List Ob} (a : LayS l1 p H p1 H1) (b : LayS l2 p1 H1 p2 H2) : LayS (l1 ++ l2) p H p2 H2 := by
  induction a with
  | nil => exact b
  | cons h r ih => exact .cons h (ih b)
noncomputable def foldL (k : Nat) : List (List UInt8) → D → List Ob → Option (D × List Ob)
  | [], p, h => some (p, h)
  | x :: l, p, h => match body Try.prog (exec Try.prog cfg k) 44 [p, .str (bstr x)] h with
    | some (.tup [p', .bool true], h') => foldL k l p' h'
    | _ => none
theorem LayS.of (k : Nat) : ∀ {l : List (List UInt8)} {p p2 : D} {H H2 : List Ob}, foldL k l p H = some (p2, H2) → LayS l p H p2 H2
  | [], p, p2, H, H2, h => by cases h; exact .nil _ _
  | x :: l, p, p2, H, H2, h => by
    unfold foldL at h
    split at h
    · rename_i p' h' hb
      exact .cons (body_le (exec_W k) hb) (LayS.of k h)
    · cases h
theorem parse_loop (all : List (List UInt8)) (last : List UInt8) (hl : all.length < 1000) {X : Type} (K : Ex × St → Option X) (Q : Option X → Prop) : ∀ {rest : List (List UInt8)} {p p2 : D} {H H2 : List Ob} (hL : LayS rest p H p2 H2) (i : Nat) (σ : Nat → D), all.drop i = rest →
    σ 5 = .sl 1 ((all ++ [last]).map encBs) false → σ 6 = p → σ 7 = I i →
    (∀ σ', σ' 5 = .sl 1 ((all ++ [last]).map encBs) false → σ' 6 = p2 → Q (K (.exit 0, ⟨σ', H2, 52⟩))) →
    Q ((W Try.prog cfg (.loop (loopAt Try.f26 4)) ⟨σ, H, 52⟩).bind K) := by
  intro rest p p2 H H2 hL
  have hlen : ((all ++ [last]).map encBs).length = all.length + 1 := by simp
  have w1 : IntKind.i64.wrap (((all.length + 1 : Nat) : Int) - 1) = (all.length : Int) := by rw [wr (by omega) (by omega)]; omega
  have w3 : IntKind.i64.wrap (all.length : Int) = (all.length : Int) := wr (by omega) (by omega)
  obtain ⟨L, hLL⟩ : ∃ L, L = (all ++ [last]).map encBs := ⟨_, rfl⟩
  rw [← hLL] at hlen
  rw [← hLL]
  induction hL with
  | nil p H =>
    intro i σ hd s5 s6 s7 he
    have hi : ¬ (i < all.length) := by have := congrArg List.length hd; simp at this; omega
    have hi2 : decide (i < all.length) = false := df hi
    have hi3 : decide ((i : Int) < (all.length : Int)) = false := df (by omega)
    rw [Wloop]
    conv => arg 1; arg 1; arg 1; simp [loopAt, loopIn, headId, Try.f26, s5, s6, s7, hlen, w1, w3, hi, hi2, hi3, -getElem?_pos]
    refine he _ ?_ ?_
    · simp [s5]
    · simp [s6]
  | cons h r ih =>
    rename_i x l q q1 q2 G G1 G2
    intro i σ hd s5 s6 s7 he
    obtain ⟨hg1, hd1, hi⟩ := drop_get hd
    have hi2 : decide (i < all.length) = true := dt hi
    have hi3 : decide ((i : Int) < (all.length : Int)) = true := dt (by omega)
    have hx : idxD (all.length + 1) (I i) = some i := idxD_nat .i64 (by omega)
    have hget : L[i]? = some (.str (bstr x)) := by
      rw [hLL, List.getElem?_map, List.getElem?_append_left hi, hg1]; rfl
    have hw : IntKind.i64.wrap ((i : Int) + 1) = ((i + 1 : Nat) : Int) := wr (by omega) (by omega)
    rw [Wloop]
    conv => arg 1; arg 1; arg 1; simp [loopAt, loopIn, headId, Try.f26, s5, s6, s7, hlen, w1, w3, hi, hi2, hi3, hx, hget, h, hw, -getElem?_pos]
    rw [Option.bind_some, loopK_normal]
    refine ih (i + 1) _ hd1 ?_ ?_ ?_ he
    · simp [s5]
    · simp
    · simp
theorem ne_e (x y : Operand) : binD Try.prog .neq 9 x y (.str (bstr [])) (.str ⟨#[]⟩) = some (.bool false) := by
  cases x <;> cases y <;> kernel_rfl
theorem parse_spec {l : List UInt8} {all : List (List UInt8)} (hs : splitL 10 l [] = all ++ [[]]) (hl : l.length < 1000) (hal : all.length < 1000) {p2 : D} {H2 : List Ob} (hL : LayS all (.sl 4 [] true) [] p2 H2) {pr : List Fu}
    (hE : exp1 H2 p2 = some (encL 4 encFunc (some pr))) (hm : mayP pr = true) (hb : Bnd pr) : fnc Try.prog cfg R 26 [.str (bstr l)] = some (.tup [encL 4 encFunc (some pr), I all.length, I 0]) := by
  have hsp := split_spec l 10 (by omega)
  rw [hs] at hsp
  rw [show ((10 : UInt8).toNat : Int) = 10 from rfl] at hsp
  have hM := rmay7_spec (some pr) hb
  rw [Option.getD_some, hm] at hM
  have w1 : IntKind.i64.wrap (((all.length + 1 : Nat) : Int) - 1) = (all.length : Int) := by rw [wr (by omega) (by omega)]; omega
  have w2 : IntKind.i64.wrap ((all.length : Int) + 1 - 1) = (all.length : Int) := by rw [wr (by omega) (by omega)]; omega
  have w3 : IntKind.i64.wrap (all.length : Int) = (all.length : Int) := wr (by omega) (by omega)
  have hx : idxD (all.length + 1) (I all.length) = some all.length := idxD_nat .i64 (by omega)
  obtain ⟨L, hLL⟩ : ∃ L, L = (all ++ [[]]).map encBs := ⟨_, rfl⟩
  have hlen : L.length = all.length + 1 := by rw [hLL]; simp
  have hget : L[all.length]? = some (.str (bstr [])) := by
    rw [hLL, List.getElem?_map, List.getElem?_append_right (Nat.le_refl _), Nat.sub_self]; rfl
  rw [← hLL] at hsp
  rw [fnc_at rfl, body_eq Try.func26 rfl rfl]
  simp [argsσ, hsp, Option.bind_assoc, -getElem?_pos]
  refine parse_loop all [] hal _ (fun o => o = some _) hL 0 _ rfl ?_ ?_ ?_ ?_
  · simp [hLL]
  · simp
  · simp
  · intro σ' s5 s6
    rw [← hLL] at s5
    simp [s5, s6, hlen, w1, w2, w3, hx, hget, hE, hM, ne_e, retK_flat, Vm.results, -getElem?_pos]
theorem of_spec2 {l : List UInt8} {d : D} {n e : Int} (h : fnc Try.prog cfg R 26 [.str (bstr l)] = some (.tup [d, I n, I e])) (hc : clean d = true) (hz : lz d = true) : fnc Try.prog cfg R 15 [.str (bstr l)] = some d := by
  rw [fnc_at rfl, body_eq Try.func15 rfl rfl]
  have hx : ∀ H, exp1 H d = some d := fun H => exp_clean hc hz
  simp [argsσ, Vm.results, h, hx, chkK_eq _ hc, -getElem?_pos]
end Go.Proofs.YtlpadffinfijgaaW.Rg
