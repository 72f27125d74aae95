/- What is wrong with a program: the program. No conditions. -/
import Derived.Test.YtlpadffinfijgaaVmAA
import Derived.Test.YtlpadffinfijgaaVmGB
import Derived.Test.YtlpadffinfijgaaVmScope
set_option linter.unusedVariables false
set_option linter.unusedSimpArgs false
set_option maxRecDepth 10000
namespace Go.Proofs.YtlpadffinfijgaaW.Rg
open Go.Proofs.YtlpadffinfijgaaW.Vm Go.Proofs.YtlpadffinfijgaaW.Md
open Go Go.Proofs
theorem beqs_map {α : Type} (e : α → D) (h : ∀ x, beq (e x) (e x) = true) : ∀ l : List α, beqs (l.map e) (l.map e) = true
  | [] => by simp
  | x :: l => by simp [h, beqs_map e h l]
theorem beq_encL {α : Type} {z : Nat} {e : α → D} (h : ∀ x, beq (e x) (e x) = true) (b : Option (List α)) : beq (encL z e b) (encL z e b) = true := by
  cases b with
  | none => simp [encL]
  | some l => simp [encL, beqs_map e h l]
@[simp] theorem beq_instr (x : Instr) : beq (encInstr x) (encInstr x) = true := by simp
@[simp] theorem beq_code (c : Option (List Instr)) : beq (encL 3 encInstr c) (encL 3 encInstr c) = true := beq_encL beq_instr c
@[simp] theorem beq_func (f : Fu) : beq (encFunc f) (encFunc f) = true := by simp
@[simp] theorem beq_prog (p : Option (List Fu)) : beq (encL 4 encFunc p) (encL 4 encFunc p) = true := beq_encL beq_func p
@[simp] theorem ev_nilp (σ) : ev σ (.const (.pointer none)) = some .nil := by simp [ev, ofVal, ofVal1]
@[simp] theorem ev_nilf (σ) : ev σ (.const .nilFunc) = some .nilf := by simp [ev, ofVal, ofVal1]
@[simp] theorem ev_nili (σ) : ev σ (.const .nilIface) = some .nili := by simp [ev, ofVal, ofVal1]
theorem wru {n : Int} (h1 : 0 ≤ n) (h2 : n < 2 ^ 64) : IntKind.u64.wrap n = n := IntWalk.u64_in _ (by omega)
theorem semPure_und {P : Program} {α : Type} {t : TypeId} {d : TypeDesc} (h : P.underlying t = some d) (f : TypeDesc → Sem α) : semPure P (Go.underlying t >>= f) = semPure P (f d) := by
  have e : semPure P (Go.underlying t >>= f) = semPure P ((match P.underlying t with | some d => (pure d : Sem TypeDesc) | none => stuck "no such type") >>= f) := rfl
  rw [e, h]; rfl
theorem cv_int {P : Program} {s d : Nat} {k1 k2 : IntKind} (hs : P.underlying s = some (.int k1)) (hd : P.underlying d = some (.int k2)) (k : IntKind) (n : Int) : pure1 P (convert s d (.int k n)) = some (.int k2 (k2.wrap n)) := by
  unfold pure1 convert
  rw [semPure_und hs, semPure_und hd]
  rfl
theorem bmul_in : ∀ n : Fin 201, beqo (fnc Try.prog cfg (exec Try.prog cfg 60) 78 [.int .u64 1, .int .u64 n.val]) (some (.tup [.int .u64 0, .int .u64 n.val])) = true := by decide +kernel
theorem bmul_spec (n : Nat) (h : n ≤ 200) : fnc Try.prog cfg R 78 [.int .u64 1, .int .u64 n] = some (.tup [.int .u64 0, .int .u64 n]) := eval_k 60 (bmul_in ⟨n, by omega⟩)
/-- a row that is filled up to a place -/
def filled (n k : Nat) : List Int := List.replicate k (-1) ++ List.replicate (n - k) 0
theorem filled_len (n k : Nat) (h : k ≤ n) : (filled n k).length = n := by simp [filled]; omega
theorem filled_more (n k : Nat) (h : k ≤ n) (m : Nat) (hm : m ≤ n - k) (hk : m ≤ k) : (filled n k).take k ++ ((filled n k).take k).take m ++ (filled n k).drop (k + m) = filled n (k + m) := by
  have e1 : (filled n k).take k = List.replicate k (-1) := by unfold filled; rw [List.take_append_of_le_length (by simp), List.take_of_length_le (by simp)]
  rw [e1]
  have e2 : (filled n k).drop (k + m) = List.replicate (n - (k + m)) 0 := by
    unfold filled
    rw [List.drop_append, List.drop_eq_nil_of_le (by simp)]
    simp
    omega
  rw [e2, List.take_replicate, Nat.min_eq_left hk]
  unfold filled
  rw [List.replicate_append_replicate]
theorem repeat_loop (n : Nat) (hn : n ≤ 200) (id : Nat) {X : Type} (K : Ex × St → Option X) (Q : Option X → Prop) (H0 : List Ob) (hid : id = H0.length) : ∀ (m k : Nat) (σ : Nat → D), n - k ≤ m → 1 ≤ k → k ≤ n →
    σ 7 = .own 1 id 0 0 n → σ 8 = I k →
    (∀ σ', σ' 7 = .own 1 id 0 0 n → Q (K (.exit 0, ⟨σ', H0 ++ [⟨0, 1, (List.replicate n (-1 : Int)).map I, 0⟩], 48⟩))) →
    Q ((W Try.prog cfg (.loop (loopAt Try.f51 8)) ⟨σ, H0 ++ [⟨0, 1, (filled n k).map I, 0⟩], 48⟩).bind K) := by
  intro m
  induction m with
  | zero =>
    intro k σ hm h1 h2 s7 s8 hK
    obtain rfl : k = n := by omega
    have hf : filled k k = List.replicate k (-1) := by simp [filled]
    rw [Wloop]
    conv => arg 1; arg 1; arg 1; simp [loopAt, loopIn, headId, Try.f51, s7, s8]
    rw [hf]
    exact hK _ (by simp [s7])
  | succ m ih =>
    intro k σ hm h1 h2 s7 s8 hK
    by_cases hkn : k = n
    · subst hkn
      have hf : filled k k = List.replicate k (-1) := by simp [filled]
      rw [Wloop]
      conv => arg 1; arg 1; arg 1; simp [loopAt, loopIn, headId, Try.f51, s7, s8]
      rw [hf]
      exact hK _ (by simp [s7])
    · have hlt : decide (k < n) = true := dt (by omega)
      have hd := dr51_9
      simp [opsAt, opsIn, Try.f51] at hd
      have hdw := Wdraw0 hd
      clear hd
      subst hid
      have hfl := filled_len n k h2
      have sl1 : ∀ h, sliceD Try.prog h 51 (.own 1 H0.length 0 0 n) (some (I k)) none none = some (.own 1 H0.length 0 k (n - k), h) := fun h => by simp [sliceD, bndD, h2]
      have sl2 : ∀ h, sliceD Try.prog h 51 (.own 1 H0.length 0 0 n) none (some (I k)) none = some (.own 1 H0.length 0 0 k, h) := fun h => by simp [sliceD, bndD, h2]
      have hmin : Nat.min k (n - k) = min k (n - k) := rfl
      have e1 : ((filled n k).map I).take k = ((filled n k).take k).map I := List.map_take.symm
      have hel : elsZ (H0 ++ [⟨0, 1, (filled n k).map I, 0⟩]) 1 (.own 1 H0.length 0 0 k) = some (((filled n k).take k).map I) := by
        rw [elsZ_own, elsOf_own, get_app0 rfl]; simp only [List.getElem?_cons_zero, Option.bind_some, List.length_map, hfl, Nat.zero_add, List.drop_zero, h2, and_self, if_true, e1]
      have hlen : (((filled n k).take k).map I).length = k := by simp [hfl]; omega
      have hcp : cpN 1 (H0 ++ [⟨0, 1, (filled n k).map I, 0⟩]) (.own 1 H0.length 0 k (n - k)) (Nat.min k (n - k)) (((filled n k).take k).map I) = some (.int .i64 (Nat.min k (n - k) : Nat), H0 ++ [⟨0, 1, (filled n (k + Nat.min k (n - k))).map I, 0⟩]) := by
        have hm0 : Nat.min k (n - k) ≠ 0 := by show min k (n - k) ≠ 0; omega
        unfold cpN
        rw [if_neg hm0]
        simp only [get_app0 (h := H0) rfl, List.getElem?_cons_zero]
        rw [if_pos (by simp [hfl]; omega)]
        simp only [set_app0 (h := H0) rfl, List.set_cons_zero]
        rw [← filled_more n k h2 (Nat.min k (n - k)) (Nat.min_le_right _ _) (Nat.min_le_left _ _)]
        simp [List.map_take, List.map_drop]
      have hmk : k + Nat.min k (n - k) ≤ n := by have := Nat.min_le_right k (n - k); have : Nat.min k (n - k) ≤ n - k := Nat.min_le_right _ _; omega
      have hw : IntKind.i64.wrap ((k : Int) + (Nat.min k (n - k) : Nat)) = ((k + Nat.min k (n - k) : Nat) : Int) := wr (by omega) (by omega)
      have hm1 : 1 ≤ Nat.min k (n - k) := by show 1 ≤ min k (n - k); omega
      rw [Wloop]
      conv => arg 1; arg 1; arg 1; simp [loopAt, loopIn, headId, Try.f51, s7, s8, hlt, hdw, sl1, sl2, hel, hlen, hcp, hw, -List.map_take]
      rw [Option.bind_some, loopK_normal]
      exact ih (k + Nat.min k (n - k)) _ (by omega) (by omega) hmk (by simp [s7]) (by simp) hK
theorem repeat_spec (n : Nat) (h1 : 1 ≤ n) (hn : n ≤ 200) (H : List Ob) : body Try.prog R 51 [.sl 1 [I (-1)] false, I n] H = some (.own 1 H.length 0 0 n, H ++ [⟨0, 1, (List.replicate n (-1 : Int)).map I, 0⟩]) := by
  have hmk := fun (hp : List Ob) => mk_slice (P := Try.prog) el51 sz3 by3 ze3 (by simp) (by decide) (by decide) hp .i64 .i64 n n (by omega) (by omega) (by omega)
  simp only [Int.toNat_natCast] at hmk
  have c1 : pure1 Try.prog (convert 3 123 (.int .i64 1)) = some (.int .u64 1) := by rw [cv_int un3 un123, wru (by omega) (by omega)]
  have c2 : pure1 Try.prog (convert 3 123 (.int .i64 n)) = some (.int .u64 n) := by
    rw [cv_int un3 un123, wru (by omega) (by omega)]
  have c3 : pure1 Try.prog (convert 123 3 (.int .u64 n)) = some (.int .i64 n) := by
    rw [cv_int un123 un3, wr (by omega) (by omega)]
  have hb := bmul_spec n hn
  have d1 : decide ((n : Int) < 0) = false := df (by omega)
  have d2 : decide ((9223372036854775807 : Int) < n) = false := df (by omega)
  have hf : List.replicate n (D.int .i64 0) = (List.replicate n (0 : Int)).map I := by simp
  rw [hf] at hmk
  have hcp : cpN 1 (H ++ [⟨0, 1, (List.replicate n (0 : Int)).map I, 0⟩]) (.own 1 H.length 0 0 n) (Nat.min 1 n) [I (-1)] = some (.int .i64 1, H ++ [⟨0, 1, (filled n 1).map I, 0⟩]) := by
    have e : Nat.min 1 n = 1 := by show min 1 n = 1; omega
    rw [e]; unfold cpN
    rw [if_neg (by omega)]
    simp only [get_app0 (h := H) rfl, List.getElem?_cons_zero]
    rw [if_pos (by simp)]
    simp only [set_app0 (h := H) rfl, List.set_cons_zero]
    simp [filled, List.drop_replicate]
  rw [body_eq Try.func51 rfl rfl]
  simp [argsσ, c1, c2, c3, hb, d1, d2, hmk, hcp, Option.bind_assoc, -List.map_replicate]
  refine repeat_loop n hn H.length _ (fun o => o = some _) H rfl n 1 _ (by omega) (Nat.le_refl _) h1 (by simp) (by simp) ?_
  intro σ' s7
  simp [s7, Vm.results, -List.map_replicate]
/-- a checker's cells -/
@[reducible] def encC (p : Option (List Fu)) (f : Fu) (di ni n : Nat) (pl : Int) : D := .agg [encProg p, I f.arity, I f.locals, I f.slots, encCode f.code, .own 1 di 0 0 n, .own 1 ni 0 0 n, I pl]
theorem newc_spec (p : Option (List Fu)) (i : Nat) (f : Fu) (hf : (p.getD [])[i]? = some f) (h1 : 1 ≤ f.c.length) (hn : f.c.length ≤ 200) (H : List Ob) :
    body Try.prog R 31 [encProg p, I i] H = some (.ptr (H.length + 3) 0 0 0, H ++ [⟨0, 4, [encFunc f], 0⟩, ⟨0, 1, (List.replicate f.c.length (-1 : Int)).map I, 0⟩, ⟨0, 1, (List.replicate f.c.length false).map D.bool, 0⟩,
      ⟨0, 8, [encC p f (H.length + 1) (H.length + 2) f.c.length 0], 0⟩]) := by
  have hlt : i < (p.getD []).length := (List.getElem?_eq_some_iff.1 hf).1
  have hx := idxD_nat .i64 hlt
  have hR := repeat_spec f.c.length h1 hn (H ++ [⟨0, 4, [encFunc f], 0⟩])
  have hcl : (f.code.getD []).length = f.c.length := rfl
  have hmk2 := fun (hp : List Ob) => mk_slice (P := Try.prog) el79 sz4 by4 ze4 (by simp) (by decide) (by decide) hp .i64 .i64 f.c.length f.c.length (by omega) (by omega) (by omega)
  simp only [Int.toNat_natCast] at hmk2
  have r2 : List.replicate f.c.length (D.bool false) = (List.replicate f.c.length false).map D.bool := by simp
  rw [r2] at hmk2
  have hd := dr31_2
  simp [opsAt, opsIn, Try.f31] at hd
  have hdw := Wdraw hd
  clear hd
  rw [body_eq Try.func31 rfl rfl]
  simp [argsσ, hx, hf, hdw, hR, hcl, hmk2, Vm.results, -List.map_replicate, logL, loud, isE, drawChk]
/-- a checker in memory -/
structure Ck (H : List Ob) (p : Option (List Fu)) (f : Fu) (ck di ni : Nat) (ds : List Int) (dn : List Bool) (pl : Int) : Prop where
  c : H[ck]? = some ⟨0, 8, [encC p f di ni f.c.length pl], 0⟩
  d : H[di]? = some ⟨0, 1, ds.map I, 0⟩
  b : H[ni]? = some ⟨0, 1, dn.map D.bool, 0⟩
  n1 : ck ≠ di
  n2 : ck ≠ ni
  n3 : di ≠ ni
theorem get_some_lt {α : Type} {l : List α} {i : Nat} {x : α} (h : l[i]? = some x) : i < l.length := (List.getElem?_eq_some_iff.1 h).1
theorem Ck.app {H p f ck di ni ds dn pl} (h : Ck H p f ck di ni ds dn pl) (t : List Ob) : Ck (H ++ t) p f ck di ni ds dn pl :=
  ⟨by rw [get_lt (get_some_lt h.c), h.c], by rw [get_lt (get_some_lt h.d), h.d], by rw [get_lt (get_some_lt h.b), h.b], h.n1, h.n2, h.n3⟩
theorem cfield_spec (p : Option (List Fu)) (f : Fu) (x : Instr) {H : List Ob} {ck di ni n : Nat} {pl : Int} (hc : H[ck]? = some ⟨0, 8, [encC p f di ni n pl], 0⟩) :
    body Try.prog R 52 [.ptr ck 0 0 0, encInstr x] H = some (I (fieldE (p.getD []).length f x), H ++ [⟨0, 3, [encInstr x], 0⟩]) := by
  have hlt := get_some_lt hc
  have g : ∀ t, (H ++ t)[ck]? = some ⟨0, 8, [encC p f di ni n pl], 0⟩ := fun t => by rw [get_lt hlt, hc]
  have hcl : (f.code.getD []).length = f.c.length := rfl
  have hd := dr52_11
  simp [opsAt, opsIn, Try.f52] at hd
  have hdw := Wdraw0 hd
  have hd2 := dr52_15
  simp [opsAt, opsIn, Try.f52] at hd2
  have hdw2 := Wdraw0 hd2
  clear hd hd2
  rw [body_eq Try.func52 rfl rfl]
  unfold fieldE
  cases c1 : decide (x.op = 1)
  case true =>
    have h := of_decide_eq_true c1
    cases c2 : decide (f.locals ≤ x.a) <;> (first | have := of_decide_eq_true c2 | have := of_decide_eq_false c2) <;> simp [argsσ, Vm.results, g, op_nilp, c2, h, *]
  cases c1' : decide (x.op = 2)
  case true =>
    have h := of_decide_eq_true c1'
    cases c2 : decide (f.locals ≤ x.a) <;> (first | have := of_decide_eq_true c2 | have := of_decide_eq_false c2) <;> simp [argsσ, Vm.results, g, op_nilp, c2, h, *]
  have n1 := of_decide_eq_false c1; have n2 := of_decide_eq_false c1'
  cases c3 : decide (x.op = 14)
  case true =>
    have h := of_decide_eq_true c3
    cases c2 : decide (f.slots ≤ x.a) <;> (first | have := of_decide_eq_true c2 | have := of_decide_eq_false c2) <;> simp [argsσ, Vm.results, g, op_nilp, c2, h, *]
  have n3 := of_decide_eq_false c3
  cases c4 : decide (x.op = 13)
  case true =>
    have h := of_decide_eq_true c4
    cases c2 : decide (f.slots ≤ x.b)
    · have m1 := of_decide_eq_false c2
      cases c5 : decide (((p.getD []).length : Int) ≤ x.a) <;> (first | have := of_decide_eq_true c5 | have := of_decide_eq_false c5) <;> simp [argsσ, Vm.results, g, op_nilp, hdw, c2, c5, h, *]
    · have m1 := of_decide_eq_true c2
      simp [argsσ, Vm.results, g, op_nilp, hdw, c2, h, *]
  have n4 := of_decide_eq_false c4
  cases c5 : decide (x.op = 10)
  case true =>
    have h := of_decide_eq_true c5
    cases c2 : decide ((f.c.length : Int) ≤ x.a) <;> (first | have := of_decide_eq_true c2 | have := of_decide_eq_false c2) <;> simp [argsσ, Vm.results, g, op_nilp, hdw2, c2, h, *]
  have n5 := of_decide_eq_false c5
  cases c6 : decide (x.op = 11)
  case true =>
    have h := of_decide_eq_true c6
    cases c2 : decide ((f.c.length : Int) ≤ x.a) <;> (first | have := of_decide_eq_true c2 | have := of_decide_eq_false c2) <;> simp [argsσ, Vm.results, g, op_nilp, hdw2, c2, h, *]
  have n6 := of_decide_eq_false c6
  simp [argsσ, Vm.results, g, op_nilp, *]
theorem cstack_spec (p : Option (List Fu)) (f : Fu) (hs : Safe (p.getD []) f.c) (x : Instr) (hx : x ∈ f.c) {H : List Ob} {ck di ni n : Nat} {pl : Int} (hc : H[ck]? = some ⟨0, 8, [encC p f di ni n pl], 0⟩) :
    body Try.prog R 80 [.ptr ck 0 0 0, encInstr x] H = some (.tup [I (offP (p.getD []) x), I (on6 x.op)], H ++ [⟨0, 3, [encInstr x], 0⟩]) := by
  have hlt := get_some_lt hc
  have g : ∀ t, (H ++ t)[ck]? = some ⟨0, 8, [encC p f di ni n pl], 0⟩ := fun t => by rw [get_lt hlt, hc]
  have hS := stack_spec x.op ⟨(hs.a hx).1, (hs.a hx).2.1⟩
  have hd := dr80_3
  simp [opsAt, opsIn, Try.f80] at hd
  have hdw := Wdraw0 hd
  clear hd
  rw [body_eq Try.func80 rfl rfl]
  cases c1 : decide (x.op = 13)
  · have e : offP (p.getD []) x = off6 x.op := by unfold offP; rw [if_neg (of_decide_eq_false c1)]
    rw [e]
    simp [argsσ, Vm.results, c1, hS]
  · have h13 := of_decide_eq_true c1
    have h2 := hs.sp x hx h13
    have h3 := (hs.a hx).2.2.1
    obtain ⟨m, hm⟩ : ∃ m : Nat, x.a = m := ⟨x.a.toNat, by omega⟩
    have hlt2 : m < (p.getD []).length := by omega
    have hix := idxD_nat .i64 hlt2
    have hg : (p.getD [])[m]? = some (p.getD [])[m] := List.getElem?_eq_getElem hlt2
    have e : offP (p.getD []) x = ((p.getD [])[m]).arity := by unfold offP; rw [if_pos h13, hm]; simp [hg]
    rw [e]
    generalize (p.getD [])[m] = f2 at hg
    simp [argsσ, Vm.results, g, op_nilp, c1, hS, hdw, hm, hix, hg]
theorem cnext_spec (p : Option (List Fu)) (f : Fu) (at_ : Nat) (x : Instr) (hx : f.c[at_]? = some x) (h200 : f.c.length ≤ 200) {H : List Ob} {ck di ni n : Nat} {pl : Int} (hc : H[ck]? = some ⟨0, 8, [encC p f di ni n pl], 0⟩) :
    body Try.prog R 81 [.ptr ck 0 0 0, I at_] H = some (encL 1 I (nextO x at_), H ++ [⟨0, 3, [encInstr x], 0⟩]) := by
  have hlt := get_some_lt hc
  have hat := get_some_lt hx
  have g : ∀ t, (H ++ t)[ck]? = some ⟨0, 8, [encC p f di ni n pl], 0⟩ := fun t => by rw [get_lt hlt, hc]
  have hx' : (f.code.getD [])[at_]? = some x := hx
  have hix : idxD (f.code.getD []).length (D.int .i64 (at_ : Int)) = some at_ := idxD_nat .i64 hat
  have hw : IntKind.i64.wrap ((at_ : Int) + 1) = (at_ : Int) + 1 := wr (by omega) (by omega)
  rw [body_eq Try.func81 rfl rfl]
  unfold nextO
  cases c1 : decide (x.op = 10)
  case true => have := of_decide_eq_true c1; simp [argsσ, Vm.results, hc, op_nilp, hix, hx', c1, this, encL]
  cases c2 : decide (x.op = 15)
  case true => have := of_decide_eq_true c2; simp [argsσ, Vm.results, hc, op_nilp, hix, hx', c1, c2, this, encL]
  cases c3 : decide (x.op = 16)
  case true => have := of_decide_eq_true c3; simp [argsσ, Vm.results, hc, op_nilp, hix, hx', c1, c2, c3, this, encL]
  cases c4 : decide (x.op = 11)
  case true => have := of_decide_eq_true c4; simp [argsσ, Vm.results, hc, op_nilp, hix, hx', c1, c2, c3, c4, this, encL, hw]
  have q1 := of_decide_eq_false c1; have q2 := of_decide_eq_false c2; have q3 := of_decide_eq_false c3; have q4 := of_decide_eq_false c4
  simp [argsσ, Vm.results, hc, op_nilp, hix, hx', c1, c2, c3, c4, encL, hw, q1, q2, q3, q4]
theorem cleast_loop {H p f ck di ni ds dn pl} (hk : Ck H p f ck di ni ds dn pl) (hl : ds.length = f.c.length) (hn : dn.length = f.c.length) (h200 : f.c.length ≤ 200) {X : Type} (K : Ex × St → Option X) (Q : Option X → Prop) : ∀ (m i : Nat) (σ : Nat → D), i + m = ds.length →
    σ 0 = .ptr ck 0 0 0 → σ 8 = .own 1 di 0 0 f.c.length → σ 9 = I ds.length → σ 10 = I i →
    (∀ σ' (j : Nat), leastF ds dn m i = some j → σ' 2 = I j → Q (K (.ret, ⟨σ', H, 29⟩))) → (∀ σ', leastF ds dn m i = none → Q (K (.exit 0, ⟨σ', H, 29⟩))) →
    Q ((W Try.prog cfg (.loop (loopAt Try.f79 2)) ⟨σ, H, 29⟩).bind K) := by
  intro m
  induction m with
  | zero =>
    intro i σ hm s0 s8 s9 s10 hr1 he
    have hi : ¬ (i < ds.length) := by omega
    rw [Wloop]
    conv => arg 1; arg 1; arg 1; simp [loopAt, loopIn, headId, Try.f79, s9, s10, hi]
    exact he _ rfl
  | succ m ih =>
    intro i σ hm s0 s8 s9 s10 hr1 he
    have hi : i < ds.length := by omega
    have hi2 : i < f.c.length := by omega
    have hlt : decide (i < ds.length) = true := dt hi
    have hx2 := idxD_nat .i64 hi2
    have hw : IntKind.i64.wrap ((i : Int) + 1) = ((i + 1 : Nat) : Int) := wr (by omega) (by omega)
    have g1 : ds[i]? = some ds[i] := List.getElem?_eq_getElem hi
    have g2 : dn[i]? = some dn[i] := List.getElem?_eq_getElem (by omega)
    have e1 : ds.getD i (-1) = ds[i] := by simp [List.getD_eq_getElem?_getD, g1]
    have e2 : dn.getD i true = dn[i] := by simp [List.getD_eq_getElem?_getD, g2]
    have kc := hk.c; have kd := hk.d; have kb := hk.b
    unfold leastF at hr1 he
    rw [e1, e2] at hr1 he
    generalize ds[i] = d at *
    generalize dn[i] = b at *
    cases c1 : decide (d = -1)
    · have hd : d ≠ -1 := of_decide_eq_false c1
      cases b with
      | true =>
        rw [if_neg (by simp)] at hr1 he
        rw [Wloop]
        conv => arg 1; arg 1; arg 1; simp [loopAt, loopIn, headId, Try.f79, s0, s8, s9, s10, hlt, hx2, g1, g2, c1, hw, kc, kd, kb, op_nilp]
        rw [Option.bind_some, loopK_normal]
        exact ih (i + 1) _ (by omega) (by simp [s0]) (by simp [s8]) (by simp [s9]) (by simp) hr1 he
      | false =>
        rw [if_pos ⟨hd, rfl⟩] at hr1 he
        rw [Wloop]
        conv => arg 1; arg 1; arg 1; simp [loopAt, loopIn, headId, Try.f79, s0, s8, s9, s10, hlt, hx2, g1, g2, c1, hw, kc, kd, kb, op_nilp]
        exact hr1 _ i rfl (by simp)
    · have hd : d = -1 := of_decide_eq_true c1
      rw [if_neg (by simp [hd])] at hr1 he
      rw [Wloop]
      conv => arg 1; arg 1; arg 1; simp [loopAt, loopIn, headId, Try.f79, s0, s8, s9, s10, hlt, hx2, g1, g2, c1, hw, kc, kd, kb, op_nilp]
      rw [Option.bind_some, loopK_normal]
      exact ih (i + 1) _ (by omega) (by simp [s0]) (by simp [s8]) (by simp [s9]) (by simp) hr1 he
theorem cleast_spec {H p f ck di ni ds dn pl} (hk : Ck H p f ck di ni ds dn pl) (hl : ds.length = f.c.length) (hn : dn.length = f.c.length) (h200 : f.c.length ≤ 200) :
    body Try.prog R 79 [.ptr ck 0 0 0] H = some (I (leastI ds dn), H) := by
  have kc := hk.c
  rw [body_eq Try.func79 rfl rfl]
  simp [argsσ, Option.bind_assoc, kc, op_nilp]
  refine cleast_loop hk hl hn h200 _ (fun o => o = some _) ds.length 0 _ (by simp) (by simp [argsσ]) (by simp) (by simp [hl]) (by simp) ?_ ?_
  · intro σ' j h1 h2; simp [h2, Vm.results, leastI, least, h1]
  · intro σ' h1; simp [Vm.results, leastI, least, h1]
theorem next_le {c : List Instr} (hj : Jumps c) {at_ : Nat} {x : Instr} (hx : c[at_]? = some x) (ha : 0 ≤ x.a) : ∀ t ∈ nextP x at_, t ≤ c.length := by
  have hat := get_some_lt hx
  have hm := hj x (List.mem_of_getElem? hx)
  intro t ht
  unfold nextP at ht
  split at ht
  · rename_i h; have := hm (.inl h); simp at ht; omega
  · split at ht
    · simp at ht
    · split at ht
      · rename_i h; have := hm (.inr h)
        simp at ht
        rcases ht with rfl | rfl <;> omega
      · simp at ht; omega
theorem Ck.setC {H p f ck di ni ds dn pl} (h : Ck H p f ck di ni ds dn pl) (pl' : Int) : Ck (H.set ck ⟨0, 8, [encC p f di ni f.c.length pl'], 0⟩) p f ck di ni ds dn pl' :=
  ⟨by rw [List.getElem?_set_self (get_some_lt h.c)], by rw [List.getElem?_set_ne h.n1, h.d], by rw [List.getElem?_set_ne h.n2, h.b], h.n1, h.n2, h.n3⟩
theorem Ck.setD {H p f ck di ni ds dn pl} (h : Ck H p f ck di ni ds dn pl) (ds' : List Int) : Ck (H.set di ⟨0, 1, ds'.map I, 0⟩) p f ck di ni ds' dn pl :=
  ⟨by rw [List.getElem?_set_ne h.n1.symm, h.c], by rw [List.getElem?_set_self (get_some_lt h.d)], by rw [List.getElem?_set_ne h.n3, h.b], h.n1, h.n2, h.n3⟩
theorem Ck.setB {H p f ck di ni ds dn pl} (h : Ck H p f ck di ni ds dn pl) (dn' : List Bool) : Ck (H.set ni ⟨0, 1, dn'.map D.bool, 0⟩) p f ck di ni ds dn' pl :=
  ⟨by rw [List.getElem?_set_ne h.n2.symm, h.c], by rw [List.getElem?_set_ne h.n3.symm, h.d], by rw [List.getElem?_set_self (get_some_lt h.b)], h.n1, h.n2, h.n3⟩
theorem clay_loop (p : Option (List Fu)) (f : Fu) (h200 : f.c.length ≤ 200) (ck di ni : Nat) (dn : List Bool) (pl : Int) (l : Option (List Int)) (b : Int) (hb : 0 ≤ b ∧ b ≤ 16) (hl2 : (l.getD []).length ≤ 2) {X : Type} (K : Ex × St → Option X) (Q : Option X → Prop) : ∀ (ts : List Nat) (j : Nat) (ds : List Int) (H : List Ob) (σ : Nat → D), (l.getD []).drop j = ts.map (fun (t : Nat) => (t : Int)) → (∀ t ∈ ts, t ≤ f.c.length) → Ck H p f ck di ni ds dn pl → ds.length = f.c.length →
    σ 0 = .ptr ck 0 0 0 → σ 6 = I b → σ 67 = encL 1 I l → σ 68 = I (l.getD []).length → σ 69 = I j →
    (∀ σ' H' ds' e, lay f.c.length b ts ds = .inl e → Ck H' p f ck di ni ds' dn pl → σ' 2 = I e → Q (K (.ret, ⟨σ', H', 109⟩))) →
    (∀ σ' H' ds', lay f.c.length b ts ds = .inr ds' → Ck H' p f ck di ni ds' dn pl → σ' 0 = .ptr ck 0 0 0 → Q (K (.exit 0, ⟨σ', H', 109⟩))) →
    Q ((W Try.prog cfg (.loop (loopAt Try.f53 11)) ⟨σ, H, 109⟩).bind K) := by
  intro ts
  induction ts with
  | nil =>
    intro j ds H σ hd ht hk hl s0 s6 s67 s68 s69 hr1 he
    have hj : ¬ (j < (l.getD []).length) := by have := congrArg List.length hd; simp at this; omega
    rw [Wloop]
    conv => arg 1; arg 1; arg 1; simp [loopAt, loopIn, headId, Try.f53, s68, s69, hj]
    exact he _ H ds rfl hk (by simp [s0])
  | cons t ts ih =>
    intro j ds H σ hd ht hk hl s0 s6 s67 s68 s69 hr1 he
    rw [List.map_cons] at hd
    obtain ⟨hg1, hd1, hj⟩ := drop_get hd
    have hlt : decide (j < (l.getD []).length) = true := dt hj
    have hx := idxD_nat .i64 hj
    have hw : IntKind.i64.wrap ((j : Int) + 1) = ((j + 1 : Nat) : Int) := wr (by omega) (by omega)
    have hcl : (f.code.getD []).length = f.c.length := rfl
    have htl := ht t (by simp)
    have kc := hk.c; have kd := hk.d
    unfold lay at hr1 he
    by_cases c1 : t = f.c.length
    · rw [if_pos (by omega)] at hr1
      have d1 : decide (t = f.c.length) = true := dt c1
      have d1' : decide ((t : Int) = f.c.length) = true := dt (by omega)
      rw [Wloop]
      conv => arg 1; arg 1; arg 1; simp [loopAt, loopIn, headId, Try.f53, s0, s6, s67, s68, s69, hlt, hx, hg1, kc, op_nilp, hcl, d1, d1']
      exact hr1 _ H ds _ rfl hk (by simp)
    · have d1 : decide (t = f.c.length) = false := df c1
      have d1' : decide ((t : Int) = f.c.length) = false := df (by omega)
      have htn : t < f.c.length := by omega
      rw [if_neg (by omega)] at hr1 he
      have hx2 := idxD_nat .i64 htn
      have hgt : ds[t]? = some ds[t] := List.getElem?_eq_getElem (by omega)
      have e1 : ds.getD t (-1) = ds[t] := by simp [List.getD_eq_getElem?_getD, hgt]
      rw [e1] at hr1 he
      generalize ds[t] = d at *
      cases c2 : decide (d = -1)
      · rw [if_neg (of_decide_eq_false c2)] at hr1 he
        cases c3 : decide (d = b)
        · rw [if_pos (of_decide_eq_false c3)] at hr1
          rw [Wloop]
          conv => arg 1; arg 1; arg 1; simp [loopAt, loopIn, headId, Try.f53, s0, s6, s67, s68, s69, hlt, hx, hg1, kc, kd, op_nilp, hcl, d1, d1', hx2, hgt, c2, c3]
          exact hr1 _ H ds _ rfl hk (by simp)
        · rw [if_neg (by simpa using of_decide_eq_true c3)] at hr1 he
          rw [Wloop]
          conv => arg 1; arg 1; arg 1; simp [loopAt, loopIn, headId, Try.f53, s0, s6, s67, s68, s69, hlt, hx, hg1, kc, kd, op_nilp, hcl, d1, d1', hx2, hgt, c2, c3, hw]
          rw [Option.bind_some, loopK_normal]
          exact ih (j + 1) ds H _ hd1 (fun t h => ht t (by simp [h])) hk hl (by simp [s0]) (by simp [s6]) (by simp [s67]) (by simp [s68]) (by simp) hr1 he
      · rw [if_pos (of_decide_eq_true c2)] at hr1 he
        rw [Wloop]
        conv => arg 1; arg 1; arg 1; simp [loopAt, loopIn, headId, Try.f53, s0, s6, s67, s68, s69, hlt, hx, hg1, kc, kd, op_nilp, hcl, d1, d1', hx2, hgt, c2, hw]
        rw [Option.bind_some, loopK_normal, ← List.map_set (f := I)]
        exact ih (j + 1) (ds.set t b) _ _ hd1 (fun t h => ht t (by simp [h])) (hk.setD _) (by simpa using hl) (by simp [s0]) (by simp [s6]) (by simp [s67]) (by simp [s68]) (by simp) hr1 he
def seq1 : Code → Code
  | .seq a _ => a
  | c => c
def seq2 : Code → Code
  | .seq _ b => b
  | c => c
theorem hfl : findLabel (scopeAt Try.f53) 0 = some (restAt Try.f53 0) := by kernel_rfl
theorem cmain_loop (p : Option (List Fu)) (f : Fu) (hs : Safe (p.getD []) f.c) (hj : Jumps f.c) (ck di ni : Nat) {X : Type} (K : Ex × St → Option X) (Q : Option X → Prop) : ∀ (k : Nat) (ds : List Int) (dn : List Bool) (pl : Int) (H : List Ob) (σ : Nat → D), Inv (shapes (p.getD []) f.c) ds dn → (dn.filter (!·)).length < k → Ck H p f ck di ni ds dn pl →
    σ 0 = .ptr ck 0 0 0 →
    (∀ σ' H' ds' dn' a e, reachN (shapes (p.getD []) f.c) k ds dn = .inl (a, e) → Ck H' p f ck di ni ds' dn' a → σ' 2 = I e → Q (K (.ret, ⟨σ', H', 109⟩))) →
    (∀ σ' H' ds' dn' a, reachN (shapes (p.getD []) f.c) k ds dn = .inr ds' → ds'.length = f.c.length → Ck H' p f ck di ni ds' dn' a → σ' 2 = I 0 → Q (K (.ret, ⟨σ', H', 109⟩))) →
    Q ((SC Try.prog cfg (scopeAt Try.f53) (restAt Try.f53 0) ⟨σ, H, 109⟩).bind K) := by
  intro k
  induction k with
  | zero => intro ds dn pl H σ I0 hk; omega
  | succ k ih =>
    intro ds dn pl H σ I0 hk hC s0 hr1 he
    have hsl := shapes_len (p.getD []) f.c
    have hdl : ds.length = f.c.length := by rw [I0.len, hsl]
    have hdn : dn.length = f.c.length := by rw [I0.dlen, hsl]
    have h200 := hs.len
    have hL := cleast_spec hC hdl hdn h200
    have kc := hC.c; have kd := hC.d; have kb := hC.b
    have lc := get_some_lt kc; have ld := get_some_lt kd; have lb := get_some_lt kb
    unfold reachN at hr1 he
    unfold leastI at hL
    cases hle : least ds dn with
    | none =>
      rw [hle] at hL hr1 he
      rw [SC_eq]
      conv => arg 1; arg 1; arg 1; simp [restAt, scopeAt, scopeIn, findLabel, Try.f53, s0, hL]
      exact he _ H ds dn pl rfl hdl hC (by simp)
    | some at_ =>
      rw [hle] at hL hr1 he
      obtain ⟨_, ha2, ha3, ha4⟩ := leastF_some hle
      have hat : at_ < f.c.length := by omega
      have hg : f.c[at_]? = some f.c[at_] := List.getElem?_eq_getElem (by omega)
      have hxm : f.c[at_] ∈ f.c := List.getElem_mem _
      have hx := idxD_nat .i64 hat
      have hx' : idxD (f.code.getD []).length (D.int .i64 (at_ : Int)) = some at_ := idxD_nat .i64 (by show at_ < f.c.length; omega)
      have hgd : ds[at_]? = some ds[at_] := List.getElem?_eq_getElem (by omega)
      have e1 : ds.getD at_ (-1) = ds[at_] := by simp [List.getD_eq_getElem?_getD, hgd]
      have hgn : dn[at_]? = some dn[at_] := List.getElem?_eq_getElem (by omega)
      have hrg := I0.rng at_
      rw [e1] at hrg ha3
      have hsh : (shapes (p.getD []) f.c)[at_]? = some ⟨offP (p.getD []) f.c[at_], on6 f.c[at_].op, nextP f.c[at_] at_⟩ := by rw [shapes_get, hg]; rfl
      simp only [hsh, e1, hsl] at hr1 he
      have hg' : (f.code.getD [])[at_]? = some f.c[at_] := hg
      have hnP := nextO_P f.c[at_] at_ (hs.a hxm).2.2.1
      have hnl : ((nextO f.c[at_] at_).getD []).length ≤ 2 := by rcases nx_len f.c[at_] at_ with h | h; rw [h]; simp; exact h
      have hnx := next_le hj hg (hs.a hxm).2.2.1
      have hof := hs.off hxm
      have hon := on6_le f.c[at_].op
      -- the place and the mark are laid
      have C1 := hC.setC at_
      have C2 := C1.setB (dn.set at_ true)
      rw [List.map_set] at C2
      have kb1 := C1.b
      have kc2 := C2.c; have kd2 := C2.d
      have hSt := cstack_spec p f hs f.c[at_] hxm C2.c
      have C3 := C2.app [⟨0, 3, [encInstr f.c[at_]], 0⟩]
      have kc3 := C3.c; have kd3 := C3.d
      have hNx := cnext_spec p f at_ f.c[at_] hg h200 C3.c
      have C4 := C3.app [⟨0, 3, [encInstr f.c[at_]], 0⟩]
      have Istep := fun r => I0.step (r := r) (shapes_on (p.getD []) f.c) hle hsh
      simp only [e1, hsl] at Istep
      generalize hy : f.c[at_] = y at *
      generalize hz : ds[at_] = d at *
      generalize on6 y.op = no at *
      generalize offP (p.getD []) y = o at *
      have hneg : decide ((at_ : Int) < 0) = false := df (by omega)
      have w1 : IntKind.i64.wrap (d - o) = d - o := wr (by omega) (by omega)
      have w2 : IntKind.i64.wrap (d - o + no) = d - o + no := wr (by omega) (by omega)
      generalize hH2 : (H.set ck ⟨0, 8, [encC p f di ni f.c.length at_], 0⟩).set ni ⟨0, 1, (dn.map D.bool).set at_ (.bool true), 0⟩ = H2 at *
      have hH2' : (H.set ck ⟨0, 8, [.agg [encL 4 encFunc p, I f.arity, I f.locals, I f.slots, encL 3 encInstr f.code, .own 1 di 0 0 f.c.length, .own 1 ni 0 0 f.c.length, I at_]], 0⟩).set ni ⟨0, 1, (dn.map D.bool).set at_ (.bool true), 0⟩ = H2 := hH2
      have case1 : d < o ∨ 16 < d - o + no → (decide (d < o) = true ∨ (decide (d < o) = false ∧ decide (16 < d - o + no) = true)) := by
        intro h
        by_cases q : d < o
        · exact .inl (dt q)
        · exact .inr ⟨df q, dt (by omega)⟩
      by_cases hok : d < o ∨ 16 < d - o + no
      · rw [if_pos hok] at hr1
        rw [SC_eq]
        rcases case1 hok with q | ⟨q, q2⟩
        · conv => arg 1; arg 1; arg 1; simp [restAt, scopeAt, scopeIn, findLabel, Try.f53, s0, hL, hneg, kc, kb1, op_nilp, hx, hgn, hH2', kc2, kd2, hx', hg', hSt, kc3, kd3, hgd, w1, w2, q]
          exact hr1 _ _ ds _ _ _ rfl C3 (by simp)
        · conv => arg 1; arg 1; arg 1; simp [restAt, scopeAt, scopeIn, findLabel, Try.f53, s0, hL, hneg, kc, kb1, op_nilp, hx, hgn, hH2', kc2, kd2, hx', hg', hSt, kc3, kd3, hgd, w1, w2, q, q2]
          exact hr1 _ _ ds _ _ _ rfl C3 (by simp)
      · rw [if_neg hok] at hr1 he
        have q : decide (d < o) = false := df (by omega)
        have q2 : decide (16 < d - o + no) = false := df (by omega)
        have hb : 0 ≤ d - o + no ∧ d - o + no ≤ 16 := by omega
        obtain ⟨b, hbb⟩ : ∃ b, d - o + no = b := ⟨_, rfl⟩
        rw [hbb] at w2 q2 hb hr1 he
        simp only [hbb] at Istep
        rw [SC_eq]
        conv => arg 1; arg 1; arg 1; simp [restAt, scopeAt, scopeIn, findLabel, Try.f53, s0, hL, hneg, kc, kb1, op_nilp, hx, hgn, hH2', kc2, kd2, hx', hg', hSt, kc3, kd3, hgd, w1, w2, q, q2, hNx, hbb]
        simp only [Option.bind_assoc]
        refine clay_loop p f h200 ck di ni (dn.set at_ true) at_ (nextO y at_) b hb hnl _ Q (nextP y at_) 0 ds _ _ (by simpa using hnP) hnx (C2.app [⟨0, 3, [encInstr y], 0⟩, ⟨0, 3, [encInstr y], 0⟩]) hdl (by simp [s0]) (by simp) (by simp) (by simp) (by simp) ?_ ?_
        · intro σ' H' ds' e hl hk' h2
          rw [hl] at hr1
          simp [scopeK_ret]
          exact hr1 σ' H' ds' _ _ _ rfl hk' h2
        · intro σ' H' ds' hl hk' t0
          rw [hl] at hr1 he
          simp [W_goto, seqK_goto]
          rw [scopeK_goto _ _ _ hfl]
          refine ih ds' (dn.set at_ true) at_ H' σ' (Istep ds' (by rw [← hbb]; exact hok) hl) ?_ hk' t0 hr1 he
          have := count_set (l := dn) (i := at_) (by omega) ha4
          omega
theorem creach_spec (p : Option (List Fu)) (f : Fu) (hs : Safe (p.getD []) f.c) (hj : Jumps f.c) (h1 : 1 ≤ f.c.length) (ck di ni : Nat) (pl : Int) (H : List Ob) (hC : Ck H p f ck di ni (List.replicate f.c.length (-1)) (List.replicate f.c.length false) pl) (Q : Option (D × List Ob) → Prop)
    (q1 : ∀ H' ds' dn' a e, reach (shapes (p.getD []) f.c) = .inl (a, e) → Ck H' p f ck di ni ds' dn' a → Q (some (I e, H')))
    (q2 : ∀ H' ds' dn' a, reach (shapes (p.getD []) f.c) = .inr ds' → ds'.length = f.c.length → Ck H' p f ck di ni ds' dn' a → Q (some (I 0, H'))) :
    Q (body Try.prog R 53 [.ptr ck 0 0 0] H) := by
  have hsl := shapes_len (p.getD []) f.c
  have h200 := hs.len
  have kc := hC.c; have kd := hC.d
  have hx := idxD_nat .i64 (show 0 < f.c.length by omega)
  have hg : (List.replicate f.c.length (-1 : Int))[0]? = some (-1) := by rw [List.getElem?_replicate, if_pos (by omega)]
  have hx0 : idxD f.c.length (D.int .i64 0) = some 0 := hx
  have hm : ((List.replicate f.c.length (-1 : Int)).map I).set 0 (D.int .i64 0) = ((List.replicate f.c.length (-1 : Int)).set 0 0).map I := by rw [List.map_set]
  have hgm := map_get (e := I) hg
  rw [body_eq Try.func53 rfl rfl]
  have e1 : W Try.prog cfg (scopeAt Try.f53) ⟨upd (argsσ [.ptr ck 0 0 0]) 2 (D.int .i64 0), H, 109⟩ = (W Try.prog cfg (seq1 (scopeAt Try.f53)) ⟨upd (argsσ [.ptr ck 0 0 0]) 2 (D.int .i64 0), H, 109⟩).bind (seqK Try.prog cfg (restAt Try.f53 0)) := by
    rw [show scopeAt Try.f53 = .seq (seq1 (scopeAt Try.f53)) (.seq (.label 0) (seq2 (restAt Try.f53 0))) by kernel_rfl, Wseq]
    congr 1
    funext r
    obtain ⟨e, st⟩ := r
    cases e <;> first | rfl | skip
    rw [seqK_normal, seqK_normal, show restAt Try.f53 0 = .seq .skip (seq2 (restAt Try.f53 0)) by kernel_rfl, Wseq, Wseq, W_label, W_skip]
    rfl
  have main : Q (((SC Try.prog cfg (scopeAt Try.f53) (scopeAt Try.f53) ⟨upd (argsσ [.ptr ck 0 0 0]) 2 (D.int .i64 0), H, 109⟩).bind fun y => endK Try.prog Try.f53 y)) := by
    rw [SC_eq, e1]
    conv => arg 1; arg 1; arg 1; arg 1; simp [seq1, scopeAt, scopeIn, Try.f53, argsσ, kc, kd, op_nilp, hx0, hgm, -List.map_replicate]
    rw [Option.bind_some, seqK_normal, ← SC_eq, hm]
    refine cmain_loop p f hs hj ck di ni _ Q (f.c.length + 1) _ _ pl _ _ (by have := Inv.init (sh := shapes (p.getD []) f.c) (by rw [hsl]; omega); rw [hsl] at this; exact this) (by simp) (hC.setD _) (by simp [argsσ]) ?_ ?_
    · intro σ' H' ds' dn' a e hr hk h2
      have hr' : reach (shapes (p.getD []) f.c) = .inl (a, e) := by unfold reach; rw [hsl]; exact hr
      simp [h2, Vm.results]
      exact q1 H' ds' dn' a e hr' hk
    · intro σ' H' ds' dn' a hr hl hk h2
      have hr' : reach (shapes (p.getD []) f.c) = .inr ds' := by unfold reach; rw [hsl]; exact hr
      simp [h2, Vm.results]
      exact q2 H' ds' dn' a hr' hl hk
  have e2 : W Try.prog cfg (Try.f53.body.getD .skip) ⟨argsσ [.ptr ck 0 0 0], H, 109⟩ = SC Try.prog cfg (scopeAt Try.f53) (scopeAt Try.f53) ⟨upd (argsσ [.ptr ck 0 0 0]) 2 (D.int .i64 0), H, 109⟩ := by
    rw [← Wscope, show Try.f53.body.getD .skip = .seq (seq1 (Try.f53.body.getD .skip)) (.scope (scopeAt Try.f53)) by kernel_rfl, Wseq]
    conv => lhs; arg 1; simp [seq1, Try.f53]
    rw [Option.bind_some, seqK_normal]
  rw [← e2] at main
  exact main
theorem Ck.app2 {H p f ck di ni ds dn pl} {a : Ob} (h : Ck (H ++ [a]) p f ck di ni ds dn pl) (b : Ob) : Ck (H ++ [a, b]) p f ck di ni ds dn pl := by
  have e := h.app [b]
  rw [List.append_assoc] at e
  exact e
theorem cfields_loop (p : Option (List Fu)) (f : Fu) (h200 : f.c.length ≤ 200) (ck di ni : Nat) (ds : List Int) (dn : List Bool) {X : Type} (K : Ex × St → Option X) (Q : Option X → Prop) : ∀ (rest : List Instr) (i : Nat) (H : List Ob) (pl : Int) (σ : Nat → D), f.c.drop i = rest → Ck H p f ck di ni ds dn pl →
    σ 0 = .ptr ck 0 0 0 → σ 21 = encCode f.code → σ 22 = I f.c.length → σ 23 = I i →
    (∀ σ' H' (j : Nat) e, firstE (p.getD []).length f i rest = some (j, e) → Ck H' p f ck di ni ds dn j → σ' 2 = I e → Q (K (.ret, ⟨σ', H', 41⟩))) →
    (∀ σ' H' pl', firstE (p.getD []).length f i rest = none → Ck H' p f ck di ni ds dn pl' → σ' 0 = .ptr ck 0 0 0 → Q (K (.exit 0, ⟨σ', H', 41⟩))) →
    Q ((W Try.prog cfg (.loop (loopAt Try.f32 4)) ⟨σ, H, 41⟩).bind K) := by
  intro rest
  induction rest with
  | nil =>
    intro i H pl σ hd hk s0 s21 s22 s23 hr1 he
    have hi : ¬ (i < f.c.length) := by have := congrArg List.length hd; simp at this; omega
    rw [Wloop]
    conv => arg 1; arg 1; arg 1; simp [loopAt, loopIn, headId, Try.f32, s22, s23, hi]
    exact he _ H pl rfl hk (by simp [s0])
  | cons y rest ih =>
    intro i H pl σ hd hk s0 s21 s22 s23 hr1 he
    obtain ⟨hg1, hd1, hi⟩ := drop_get hd
    have hlt : decide (i < f.c.length) = true := dt hi
    have hg' : (f.code.getD [])[i]? = some y := hg1
    have hx : idxD (f.code.getD []).length (D.int .i64 (i : Int)) = some i := idxD_nat .i64 hi
    have hw : IntKind.i64.wrap ((i : Int) + 1) = ((i + 1 : Nat) : Int) := wr (by omega) (by omega)
    have C1 := hk.app [⟨0, 3, [encInstr y], 0⟩]
    have kc1 := C1.c
    have lc := get_some_lt hk.c
    have C2 := C1.setC i
    have C3 : Ck (H.set ck ⟨0, 8, [encC p f di ni f.c.length i], 0⟩ ++ [⟨0, 3, [encInstr y], 0⟩]) p f ck di ni ds dn i := by rw [← set_lt lc]; exact C2
    have g2 : ∀ t, (H.set ck ⟨0, 8, [encC p f di ni f.c.length i], 0⟩ ++ t)[H.length]? = t[0]? := fun t => by
      have := get_app0 (h := H.set ck ⟨0, 8, [encC p f di ni f.c.length i], 0⟩) (l := t) rfl
      rw [List.length_set] at this; exact this
    have sl : ∀ t o, (H ++ t).set ck o = H.set ck o ++ t := fun t o => set_lt lc o
    have hF := cfield_spec p f y C3.c
    unfold firstE at hr1 he
    generalize hE : fieldE (p.getD []).length f y = e at *
    cases c1 : decide (e = 0)
    · rw [if_neg (of_decide_eq_false c1)] at hr1
      rw [Wloop]
      conv => arg 1; arg 1; arg 1; simp [loopAt, loopIn, headId, Try.f32, s0, s21, s22, s23, hlt, hx, hg', op_nilp, kc1, sl, g2, hF, c1]
      exact hr1 _ _ i e rfl (C3.app2 ⟨0, 3, [encInstr y], 0⟩) (by simp)
    · rw [if_pos (of_decide_eq_true c1)] at hr1 he
      rw [Wloop]
      conv => arg 1; arg 1; arg 1; simp [loopAt, loopIn, headId, Try.f32, s0, s21, s22, s23, hlt, hx, hg', op_nilp, kc1, sl, g2, hF, c1, hw]
      rw [Option.bind_some, loopK_normal]
      exact ih (i + 1) _ i _ hd1 (C3.app2 ⟨0, 3, [encInstr y], 0⟩) (by simp [s0]) (by simp [s21]) (by simp [s22]) (by simp) hr1 he
theorem ccheck_spec (p : Option (List Fu)) (hm : mayP (p.getD []) = true) (f : Fu) (hf : f ∈ p.getD []) (ck di ni : Nat) (H : List Ob) (hC : Ck H p f ck di ni (List.replicate f.c.length (-1)) (List.replicate f.c.length false) 0) (Q : Option (D × List Ob) → Prop)
    (q1 : ∀ H' ds' dn', (funcE (p.getD []) f).2 ≠ 0 → Ck H' p f ck di ni ds' dn' (funcE (p.getD []) f).1 → Q (some (I (funcE (p.getD []) f).2, H')))
    (q2 : ∀ H', (funcE (p.getD []) f).2 = 0 → Q (some (I 0, H'))) :
    Q (body Try.prog R 32 [.ptr ck 0 0 0] H) := by
  have hfm := mayP_f hm hf
  have hl := fmay_len hfm
  have kc := hC.c
  have hd := dr32_1
  simp [opsAt, opsIn, Try.f32] at hd
  have hdw := Wdraw0 hd
  clear hd
  have hcl : (f.code.getD []).length = f.c.length := rfl
  rw [body_eq Try.func32 rfl rfl]
  unfold funcE at q1 q2
  cases c0 : decide (f.locals < f.arity)
  · rw [if_neg (of_decide_eq_false c0)] at q1 q2
    simp [argsσ, hdw, kc, op_nilp, c0, Option.bind_assoc, hcl]
    refine cfields_loop p f hl.2 ck di ni _ _ _ Q f.c 0 H 0 _ (by simp) hC (by simp [argsσ]) (by simp) (by simp) (by simp) ?_ ?_
    · intro σ' H' j e hE hk h2
      rw [hE] at q1
      simp [h2, Vm.results]
      exact q1 H' _ _ (firstE_some hE) hk
    · intro σ' H' pl' hE hk h0
      rw [hE] at q1 q2
      obtain ⟨hs, hj⟩ := fm_safe hm hf (firstE_none.1 hE)
      simp [h0, Option.bind_assoc]
      refine creach_spec p f hs hj hl.1 ck di ni pl' H' hk (fun o => Q (o.bind _)) ?_ ?_
      · intro H2 ds2 dn2 a e hR hk2
        rw [hR] at q1
        simp [Vm.results]
        exact q1 H2 ds2 dn2 (reachN_err hR) hk2
      · intro H2 ds2 dn2 a hR hl2 hk2
        rw [hR] at q2
        simp [Vm.results]
        exact q2 H2 rfl
  · rw [if_pos (of_decide_eq_true c0)] at q1
    simp [argsσ, hdw, kc, op_nilp, c0, Vm.results]
    exact q1 H _ _ (by decide) hC
theorem ccheck_loop (p : Option (List Fu)) (hm : mayP (p.getD []) = true) {X : Type} (K : Ex × St → Option X) (Q : Option X → Prop) : ∀ (rest : List Fu) (i : Nat) (H : List Ob) (σ : Nat → D), (p.getD []).drop i = rest →
    σ 0 = encProg p → σ 11 = encProg p → σ 12 = I (p.getD []).length → σ 13 = I i →
    (∀ σ' H', (goE (p.getD []) i rest).2.2 ≠ 0 → σ' 2 = I (goE (p.getD []) i rest).1 → σ' 3 = I (goE (p.getD []) i rest).2.1 → σ' 4 = I (goE (p.getD []) i rest).2.2 → Q (K (.ret, ⟨σ', H', 30⟩))) →
    (∀ σ' H', goE (p.getD []) i rest = (0, 0, 0) → Q (K (.exit 0, ⟨σ', H', 30⟩))) →
    Q ((W Try.prog cfg (.loop (loopAt Try.f21 4)) ⟨σ, H, 30⟩).bind K) := by
  have hpl : (p.getD []).length ≤ 16 := by unfold mayP at hm; simp only [Bool.and_eq_true, decide_eq_true_eq] at hm; omega
  intro rest
  induction rest with
  | nil =>
    intro i H σ hd s0 s11 s12 s13 hr1 he
    have hi : ¬ (i < (p.getD []).length) := by have := congrArg List.length hd; simp at this; omega
    rw [Wloop]
    conv => arg 1; arg 1; arg 1; simp [loopAt, loopIn, headId, Try.f21, s12, s13, hi]
    exact he _ H rfl
  | cons f rest ih =>
    intro i H σ hd s0 s11 s12 s13 hr1 he
    obtain ⟨hg1, hd1, hi⟩ := drop_get hd
    have hlt : decide (i < (p.getD []).length) = true := dt hi
    have hw : IntKind.i64.wrap ((i : Int) + 1) = ((i + 1 : Nat) : Int) := wr (by omega) (by omega)
    have hfm := List.mem_of_getElem? hg1
    have hl := fmay_len (mayP_f hm hfm)
    have hN := newc_spec p i f hg1 hl.1 hl.2 H
    have hdr := dr21_9
    simp [opsAt, opsIn, Try.f21] at hdr
    have hdw := Wdraw0 hdr
    clear hdr
    unfold goE at hr1 he
    rw [Wloop]
    conv => arg 1; arg 1; arg 1; simp [loopAt, loopIn, headId, Try.f21, s0, s11, s12, s13, hlt, hN, -List.map_replicate]
    simp only [Option.bind_assoc]
    refine ccheck_spec p hm f hfm (H.length + 3) (H.length + 1) (H.length + 2) _ ⟨by rw [get_app rfl]; rfl, by rw [get_app rfl]; rfl, by rw [get_app rfl]; rfl, by omega, by omega, by omega⟩ (fun o => Q (o.bind _)) ?_ ?_
    · intro H' ds' dn' hne hk
      rw [if_neg hne] at hr1
      have hd0 : decide ((funcE (p.getD []) f).2 = 0) = false := df hne
      have kc := hk.c
      simp [hd0, hdw, kc, op_nilp]
      exact hr1 _ _ hne (by simp) (by simp) (by simp)
    · intro H' h0
      rw [if_pos h0] at hr1 he
      simp [s0, s11, s12, s13, hw]
      exact ih (i + 1) _ _ hd1 (by simp [s0]) (by simp [s11]) (by simp [s12]) (by simp) hr1 he
theorem check_spec (p : Option (List Fu)) (hl : (p.getD []).length < 2 ^ 63) : fnc Try.prog cfg R 21 [encProg p] = some (.tup [I (check (p.getD [])).1, I (check (p.getD [])).2.1, I (check (p.getD [])).2.2]) := by
  have hM := may_spec p hl
  rw [fnc_at rfl, body_eq Try.func21 rfl rfl]
  unfold check
  cases hm : mayP (p.getD []) with
  | false =>
    rw [hm] at hM
    simp [argsσ, Vm.results, hM]
  | true =>
    rw [hm] at hM
    rw [if_pos rfl]
    simp [argsσ, hM, Option.bind_assoc]
    refine ccheck_loop p hm _ (fun o => o = some _) (p.getD []) 0 [] _ (by simp) (by simp [argsσ]) (by simp [argsσ]) (by simp) (by simp) ?_ ?_
    · intro σ' H' h0 h2 h3 h4
      simp [h2, h3, h4, Vm.results]
    · intro σ' H' h0
      simp [Vm.results, h0]
end Go.Proofs.YtlpadffinfijgaaW.Rg
