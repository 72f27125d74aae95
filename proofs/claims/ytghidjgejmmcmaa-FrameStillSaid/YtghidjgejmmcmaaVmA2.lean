/- Which programs may be: the program's answer and the document's. No conditions. -/
import Derived.Test.YtghidjgejmmcmaaVmA1
set_option linter.unusedVariables false
set_option linter.unusedSimpArgs false
namespace Go.Proofs.YtghidjgejmmcmaaW.Rg
open Go.Proofs.YtghidjgejmmcmaaW.Vm Go.Proofs.YtghidjgejmmcmaaW.Md
open Go Go.Proofs
/-- the first place of a list of which something is true -/
def idxF {α : Type} (p : α → Bool) : List α → Nat → Option Nat
  | [], _ => none
  | x :: xs, i => if p x then some i else idxF p xs (i + 1)
def idxI {α : Type} (p : α → Bool) (l : List α) : Int := match idxF p l 0 with | some j => j | none => -1
theorem idxF_any {α : Type} (p : α → Bool) : ∀ (l : List α) (i : Nat), (idxF p l i).isSome = l.any p
  | [], i => rfl
  | x :: xs, i => by
    unfold idxF
    cases h : p x
    · simp [idxF_any p xs (i + 1), h]
    · simp [h]
theorem idxI_any {α : Type} (p : α → Bool) (l : List α) : decide (0 ≤ idxI p l) = l.any p := by
  rw [← idxF_any p l 0]
  unfold idxI
  cases idxF p l 0 with
  | none => rfl
  | some j => simp
theorem drop_get {α : Type} {l rest : List α} {i : Nat} {y : α} (h : l.drop i = y :: rest) : l[i]? = some y ∧ l.drop (i + 1) = rest ∧ i < l.length := by
  have h1 : (l.drop i)[0]? = some y := by rw [h]; rfl
  rw [List.getElem?_drop] at h1
  refine ⟨by simpa using h1, ?_, ?_⟩
  · rw [← List.drop_drop, h]; rfl
  · have := congrArg List.length h; simp at this; omega
theorem idx_loop_instr (c : Option (List Instr)) (p : Instr → Bool) (g : Nat) (ca : List D) (hca : cleans ca = true) (hlz : lzs ca = true) (hsh : cfg.shared g = false) (hg : ∀ x, fnc Try.prog cfg R g (encInstr x :: ca) = some (.bool (p x))) (hl : (c.getD []).length < 2 ^ 63) {X : Type} (K : Ex × St → Option X) (x : X) : ∀ (rest : List Instr) (i : Nat) (σ : Nat → D), (c.getD []).drop i = rest →
    σ 0 = encL 3 encInstr c → σ 1 = .clo (.func g) [] ca → σ 7 = I (c.getD []).length → σ 8 = I i →
    (∀ σ' (j : Nat), idxF p rest i = some j → σ' 4 = I j → K (.ret, ⟨σ', [], 19⟩) = some x) → (∀ σ', idxF p rest i = none → K (.exit 0, ⟨σ', [], 19⟩) = some x) →
    (W Try.prog cfg (.loop (loopAt Try.f75 2)) ⟨σ, [], 19⟩).bind K = some x
  | [], i, σ, hd, s0, s1, s7, s8, hr, he => by
    have hi : ¬ (i < (c.getD []).length) := by have := congrArg List.length hd; simp at this; omega
    rw [Wloop]
    conv => lhs; arg 1; arg 1; simp [loopAt, loopIn, headId, Try.f75, s7, s8, hi]
    exact he _ rfl
  | y :: rest, i, σ, hd, s0, s1, s7, s8, hr, he => by
    obtain ⟨hg1, hd1, hi⟩ := drop_get hd
    have hlt : decide (i < (c.getD []).length) = true := dt hi
    have hx := idxD_nat .i64 hi
    have hw : IntKind.i64.wrap ((i : Int) + 1) = ((i + 1 : Nat) : Int) := wr (by omega) (by omega)
    have hgy := hg y
    have hcc : clean (.clo (.func g) [] ca) = true := by simp [hca]
    cases hp : p y with
    | true =>
      rw [hp] at hgy
      rw [Wloop]
      conv => lhs; arg 1; arg 1; simp [loopAt, loopIn, headId, Try.f75, s0, s1, s7, s8, hlt, hx, hg1, hgy, hw, hsh, hca, hlz, exps_clean hca hlz, markss_clean hca]
      exact hr _ i (by simp [idxF, hp]) (by simp)
    | false =>
      rw [hp] at hgy
      rw [Wloop]
      conv => lhs; arg 1; arg 1; simp [loopAt, loopIn, headId, Try.f75, s0, s1, s7, s8, hlt, hx, hg1, hgy, hw, hsh, hca, hlz, exps_clean hca hlz, markss_clean hca]
      rw [Option.bind_some, loopK_normal]
      refine idx_loop_instr c p g ca hca hlz hsh hg hl K x rest (i + 1) _ hd1 (by simp [s0]) (by simp [s1]) (by simp [s7]) (by simp) ?_ ?_
      · intro σ' j h1 h2; exact hr σ' j (by simp [idxF, hp, h1]) h2
      · intro σ' h1; exact he σ' (by simp [idxF, hp, h1])
theorem index_instr (c : Option (List Instr)) (p : Instr → Bool) (g : Nat) (ca : List D) (hca : cleans ca = true) (hlz : lzs ca = true) (hsh : cfg.shared g = false) (hg : ∀ x, fnc Try.prog cfg R g (encInstr x :: ca) = some (.bool (p x))) (hl : (c.getD []).length < 2 ^ 63) :
    fnc Try.prog cfg R 75 [encL 3 encInstr c, .clo (.func g) [] ca] = some (I (idxI p (c.getD []))) := by
  rw [fnc_at rfl, body_eq Try.func75 rfl rfl]
  simp [argsσ, Option.bind_assoc]
  refine idx_loop_instr c p g ca hca hlz hsh hg hl _ _ (c.getD []) 0 _ (by simp) (by simp [argsσ]) (by simp [argsσ]) (by simp) (by simp) ?_ ?_
  · intro σ' j h1 h2; simp [h2, Vm.results, idxI, h1]
  · intro σ' h1; simp [Vm.results, idxI, h1]
theorem contains_instr (c : Option (List Instr)) (p : Instr → Bool) (g : Nat) (ca : List D) (hca : cleans ca = true) (hlz : lzs ca = true) (hsh : cfg.shared g = false) (hg : ∀ x, fnc Try.prog cfg R g (encInstr x :: ca) = some (.bool (p x))) (hl : (c.getD []).length < 2 ^ 63) :
    fnc Try.prog cfg R 48 [encL 3 encInstr c, .clo (.func g) [] ca] = some (.bool ((c.getD []).any p)) := by
  have h := index_instr c p g ca hca hlz hsh hg hl
  have he := idxI_any p (c.getD [])
  rw [fnc_at rfl, body_eq Try.func48 rfl rfl]
  have hcc : clean (.clo (.func g) [] ca) = true := by simp [hca]
  simp [argsσ, Vm.results, h, hca, hlz, exps_clean hca hlz, markss_clean hca, he]
def inC (n a b : Int) : Bool := decide (a ≤ n) && decide (n ≤ b)
theorem in_spec (n a b : Int) : fnc Try.prog cfg R 47 [I n, I a, I b] = some (.bool (inC n a b)) := by
  rw [fnc_at rfl, body_eq Try.func47 rfl rfl]
  cases h1 : decide (a ≤ n) <;> simp [argsσ, Vm.results, h1, inC]
theorem head_spec (f : Fu) : fnc Try.prog cfg R 46 [encFunc f] = some (.bool (headOk f)) := by
  have e : headOk f = (inC f.arity 0 16 && inC f.locals 0 16 && inC f.slots 0 8) := by unfold headOk inC; simp [Bool.and_assoc]
  rw [e, fnc_at rfl, body_eq Try.func46 rfl rfl]
  cases h1 : inC f.arity 0 16 <;> cases h2 : inC f.locals 0 16 <;> simp [argsσ, Vm.results, in_spec, h1, h2]
theorem may1_spec (x : Instr) : fnc Try.prog cfg R 49 [encInstr x] = some (.bool (!imay x)) := by
  rw [fnc_at rfl, body_eq Try.func49 rfl rfl]
  simp [argsσ, Vm.results, opmay_spec]
theorem any_not (c : List Instr) : c.any (fun x => !imay x) = !c.all imay := by
  induction c with
  | nil => rfl
  | cons x c ih => simp [ih]
theorem may_loop (p : Option (List Fu)) (hl : (p.getD []).length < 2 ^ 63) {X : Type} (K : Ex × St → Option X) (x : X) : ∀ (rest : List Fu) (i : Nat) (H : List Ob) (σ : Nat → D), (p.getD []).drop i = rest →
    σ 0 = encProg p → σ 5 = encProg p → σ 6 = I (p.getD []).length → σ 7 = I i →
    (∀ σ' H', rest.all fmay = false → σ' 2 = .bool false → K (.ret, ⟨σ', H', 30⟩) = some x) → (∀ σ' H', rest.all fmay = true → σ' 0 = encProg p → K (.exit 0, ⟨σ', H', 30⟩) = some x) →
    (W Try.prog cfg (.loop (loopAt Try.f22 2)) ⟨σ, H, 30⟩).bind K = some x
  | [], i, H, σ, hd, s0, s5, s6, s7, hr, he => by
    have hi : ¬ (i < (p.getD []).length) := by have := congrArg List.length hd; simp at this; omega
    rw [Wloop]
    conv => lhs; arg 1; arg 1; simp [loopAt, loopIn, headId, Try.f22, s6, s7, hi]
    exact he _ _ rfl (by simp [s0])
  | f :: rest, i, H, σ, hd, s0, s5, s6, s7, hr, he => by
    obtain ⟨hg1, hd1, hi⟩ := drop_get hd
    have hlt : decide (i < (p.getD []).length) = true := dt hi
    have hx := idxD_nat .i64 hi
    have hw : IntKind.i64.wrap ((i : Int) + 1) = ((i + 1 : Nat) : Int) := wr (by omega) (by omega)
    have hh := head_spec f
    cases h1 : headOk f with
    | false =>
      rw [h1] at hh
      have hf : fmay f = false := by unfold fmay; rw [h1]; rfl
      rw [Wloop]
      conv => lhs; arg 1; arg 1; simp [loopAt, loopIn, headId, Try.f22, s5, s6, s7, hlt, hx, hg1, hh]
      exact hr _ _ (by simp [hf]) (by simp)
    | true =>
      rw [h1] at hh
      cases h2 : inC f.c.length 1 200 with
      | false =>
        have hc : ((f.code.getD []).length : Int) = f.c.length := rfl
        have hf : fmay f = false := by
          cases hb : fmay f with
          | false => rfl
          | true => have := fmay_len hb; unfold inC at h2; simp at h2; omega
        rw [Wloop]
        conv => lhs; arg 1; arg 1; simp [loopAt, loopIn, headId, Try.f22, s5, s6, s7, hlt, hx, hg1, hh, in_spec, hc, h2]
        exact hr _ _ (by simp [hf]) (by simp)
      | true =>
        have hc : ((f.code.getD []).length : Int) = f.c.length := rfl
        have hb : f.c.length < 2 ^ 63 := by unfold inC at h2; simp at h2; omega
        have hC := contains_instr f.code (fun x => !imay x) 49 [] (by simp) (by simp) rfl may1_spec hb
        rw [any_not, show f.code.getD [] = f.c from rfl] at hC
        have hf : fmay f = f.c.all imay := by unfold fmay; rw [h1]; unfold inC at h2; simp at h2; simp; omega
        cases h3 : f.c.all imay with
        | false =>
          rw [h3] at hC
          rw [Wloop]
          conv => lhs; arg 1; arg 1; simp [loopAt, loopIn, headId, Try.f22, s5, s6, s7, hlt, hx, hg1, hh, in_spec, hc, h2, hC]
          exact hr _ _ (by simp [hf, h3]) (by simp)
        | true =>
          rw [h3] at hC
          rw [Wloop]
          conv => lhs; arg 1; arg 1; simp [loopAt, loopIn, headId, Try.f22, s5, s6, s7, hlt, hx, hg1, hh, in_spec, hc, h2, hC, hw]
          rw [Option.bind_some, loopK_normal]
          refine may_loop p hl K x rest (i + 1) _ _ hd1 (by simp [s0]) (by simp [s5]) (by simp [s6]) (by simp) ?_ ?_
          · intro σ' H' ha h2; exact hr σ' H' (by simp [ha]) h2
          · intro σ' H' ha h2; exact he σ' H' (by simp [ha, hf, h3]) h2
theorem may_spec (p : Option (List Fu)) (hl : (p.getD []).length < 2 ^ 63) : fnc Try.prog cfg R 22 [encProg p] = some (.bool (mayP (p.getD []))) := by
  rw [fnc_at rfl, body_eq Try.func22 rfl rfl]
  simp [argsσ, Option.bind_assoc]
  refine may_loop p hl _ _ (p.getD []) 0 _ _ (by simp) (by simp [argsσ]) (by simp [argsσ]) (by simp) (by simp) ?_ ?_
  · intro σ' H' ha h2; simp [h2, Vm.results, mayP, ha]
  · intro σ' H' ha h2
    simp [h2, Vm.results, in_spec, mayP, ha, inC]
    congr 1 <;> simp <;> omega
end Go.Proofs.YtghidjgejmmcmaaW.Rg
