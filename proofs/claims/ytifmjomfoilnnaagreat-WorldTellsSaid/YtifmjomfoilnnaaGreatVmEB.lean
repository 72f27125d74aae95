/- Lists, programs. No conditions. -/
import Derived.Test.YtifmjomfoilnnaaGreatVmPre
import Derived.Test.YtifmjomfoilnnaaGreatVmMM
set_option linter.unusedVariables false
set_option linter.unusedSimpArgs false
namespace Go.Proofs.YtifmjomfoilnnaaGreatW.Rg
open Go.Proofs.YtifmjomfoilnnaaGreatW.Vm Go.Proofs.YtifmjomfoilnnaaGreatW.Md
open Go Go.Proofs
/-- a list as a slice; none: the nil one -/
def encL {α : Type} (z : Nat) (e : α → D) : Option (List α) → D
  | none => .snil
  | some l => .sl z (l.map e) false
section
variable {α : Type} {z : Nat} {e : α → D}
@[simp] theorem lenS_encL (b : Option (List α)) : lenS (encL z e b) = some (b.getD []).length := by cases b <;> simp [encL]
@[simp] theorem one_encL (b : Option (List α)) : D.one (encL z e b) = true := by cases b <;> simp [encL]
@[simp] theorem cells_encL (b : Option (List α)) : D.cells (encL z e b) = [encL z e b] := by cases b <;> simp [encL]
@[simp] theorem clean_encL (b : Option (List α)) : clean (encL z e b) = true := by cases b <;> simp [encL]
@[simp] theorem lz_encL (b : Option (List α)) : lz (encL z e b) = true := by cases b <;> simp [encL]
@[simp] theorem elsZ_encL (h : List Ob) (b : Option (List α)) : elsZ h z (encL z e b) = some ((b.getD []).map e) := by cases b <;> simp [encL]
theorem ixL {P : Program} {t el : Nat} (hu : P.underlying t = some (.slice el)) (hs : szT P el = some z) (b : Option (List α)) (i : D) : indexAddrD P t (encL z e b) i = (idxD (b.getD []).length i).map fun i => .fptr z ((b.getD []).map e) i 0 := by
  cases b with
  | none => simp only [encL, indexAddrD, hu]; cases i <;> simp [idxD]
  | some l => simp [encL, ixsl_eq hu hs]
theorem map_get {l : List α} {i : Nat} {x : α} (h : l[i]? = some x) : (l.map e)[i]? = some (e x) := by simp [h]
end
@[reducible] def encInstr (x : Instr) : D := .agg [I x.op, I x.a, I x.b]
@[reducible] def encCode (c : Option (List Instr)) : D := encL 3 encInstr c
@[reducible] def encFunc (f : Fu) : D := .agg [I f.arity, I f.locals, I f.slots, encCode f.code]
@[reducible] def encProg (p : Option (List Fu)) : D := encL 4 encFunc p
@[simp] theorem ixL_instr (b : Option (List Instr)) (i : D) : indexAddrD Tryz.prog 75 (encL 3 encInstr b) i = (idxD (b.getD []).length i).map fun i => .fptr 3 ((b.getD []).map encInstr) i 0 := ixL un75 sz115 b i
@[simp] theorem ixL_func (b : Option (List Fu)) (i : D) : indexAddrD Tryz.prog 23 (encL 4 encFunc b) i = (idxD (b.getD []).length i).map fun i => .fptr 4 ((b.getD []).map encFunc) i 0 := ixL un23 sz77 b i
@[simp] theorem ixL_int (b : Option (List Int)) (i : D) : indexAddrD Tryz.prog 30 (encL 1 I b) i = (idxD (b.getD []).length i).map fun i => .fptr 1 ((b.getD []).map I) i 0 := ixL un30 sz3 b i
@[simp] theorem ixL_bool (b : Option (List Bool)) (i : D) : indexAddrD Tryz.prog 108 (encL 1 D.bool b) i = (idxD (b.getD []).length i).map fun i => .fptr 1 ((b.getD []).map D.bool) i 0 := ixL un108 sz4 b i
theorem cl_ints : ∀ l : List Int, cleans (l.map I) = true
  | [] => rfl
  | x :: l => by simp [cl_ints l]
theorem cl_bools : ∀ l : List Bool, cleans (l.map D.bool) = true
  | [] => rfl
  | x :: l => by simp [cl_bools l]
theorem wr {n : Int} (h1 : -2 ^ 63 ≤ n) (h2 : n < 2 ^ 63) : IntKind.i64.wrap n = n := IntWalk.i64_in _ (by omega)
theorem dt {p : Prop} [Decidable p] (h : p) : decide p = true := decide_eq_true h
theorem df {p : Prop} [Decidable p] (h : ¬ p) : decide p = false := decide_eq_false h
theorem drop_get {α : Type} {l rest : List α} {i : Nat} {y : α} (h : l.drop i = y :: rest) : l[i]? = some y ∧ l.drop (i + 1) = rest ∧ i < l.length := by
  have h1 : (l.drop i)[0]? = some y := by rw [h]; rfl
  rw [List.getElem?_drop] at h1
  refine ⟨by simpa using h1, ?_, ?_⟩
  · rw [← List.drop_drop, h]; rfl
  · have := congrArg List.length h; simp at this; omega
structure Bnd (p : List Fu) : Prop where
  len : p.length < 2 ^ 63
  code : ∀ f ∈ p, f.c.length < 2 ^ 63
def sumW : Int → List Fu → Int
  | n, [] => n
  | n, f :: fs => sumW (IntKind.i64.wrap (n + f.c.length)) fs
theorem small_loop (p : Option (List Fu)) (h20 : (p.getD []).length ≤ 20) (m : D) {X : Type} (K : Ex × St → Option X) (Q : Option X → Prop) : ∀ (rest : List Fu) (i : Nat) (n : Int) (σ : Nat → D), (p.getD []).drop i = rest →
    σ 0 = encProg p → σ 1 = m → σ 5 = I n → σ 6 = I i →
    (∀ σ', σ' 0 = encProg p → σ' 1 = m → σ' 5 = I (sumW n rest) → Q (K (.exit 0, ⟨σ', [], 34⟩))) →
    Q ((W Tryz.prog cfg (.loop (loopAt Tryz.f8 3)) ⟨σ, [], 34⟩).bind K) := by
  intro rest
  induction rest with
  | nil =>
    intro i n σ hd s0 s1 s5 s6 he
    have hi : ¬ (i < (p.getD []).length) := by have := congrArg List.length hd; simp at this; omega
    rw [Wloop]
    conv => arg 1; arg 1; arg 1; simp [loopAt, loopIn, headId, Tryz.f8, s0, s6, hi]
    exact he _ (by simp [s0]) (by simp [s1]) (by simp [s5, sumW])
  | cons f rest ih =>
    intro i n σ hd s0 s1 s5 s6 he
    obtain ⟨hg1, hd1, hi⟩ := drop_get hd
    have hlt : decide (i < (p.getD []).length) = true := dt hi
    have hx := idxD_nat .i64 hi
    have hw : IntKind.i64.wrap ((i : Int) + 1) = ((i + 1 : Nat) : Int) := wr (by omega) (by omega)
    have d20 : decide (((p.getD []).length : Int) ≤ 20) = true := dt (by omega)
    rw [Wloop]
    conv => arg 1; arg 1; arg 1; simp [loopAt, loopIn, headId, Tryz.f8, s0, s1, s5, s6, hlt, hx, hg1, hw, d20]
    rw [Option.bind_some, loopK_normal]
    exact ih (i + 1) _ _ hd1 (by simp [s0]) (by simp [s1]) (by simp; rfl) (by simp) he
def small (p : List Fu) (m : Int) : Bool := decide (p.length ≤ 20) && decide (sumW 0 p ≤ m)
theorem small_spec (p : Option (List Fu)) (m : Int) : fnc Tryz.prog cfg R 8 [encProg p, I m] = some (.bool (small (p.getD []) m)) := by
  rw [fnc_at rfl, body_eq Tryz.func8 rfl rfl]
  unfold small
  cases c1 : decide ((p.getD []).length ≤ 20)
  · have d20 : decide (((p.getD []).length : Int) ≤ 20) = false := df (by have := of_decide_eq_false c1; omega)
    cases c2 : decide (0 < (p.getD []).length) <;> simp [argsσ, Wloop, Vm.results, d20, c2]
  · have d20 : decide (((p.getD []).length : Int) ≤ 20) = true := dt (by have := of_decide_eq_true c1; omega)
    simp [argsσ, Option.bind_assoc]
    refine small_loop p (of_decide_eq_true c1) (I m) _ (fun o => o = some _) (p.getD []) 0 0 _ (by simp) (by simp [argsσ]) (by simp [argsσ]) (by simp) (by simp) ?_
    intro σ' h0 h1 h5
    simp [h0, h1, h5, d20, Vm.results]
end Go.Proofs.YtifmjomfoilnnaaGreatW.Rg
