/- The program's check: a new checker. No conditions. -/
import Derived.Test.YtcbmmiglccmekaaVmA5
import Derived.Test.YtcbmmiglccmekaaVmScope
set_option linter.unusedVariables false
set_option linter.unusedSimpArgs false
namespace Go.Proofs.YtcbmmiglccmekaaW.Rg
open Go.Proofs.YtcbmmiglccmekaaW.Vm Go.Proofs.YtcbmmiglccmekaaW.Md
open Go Go.Proofs
theorem beqs_map {α : Type} (e : α → D) (h : ∀ x, beq (e x) (e x) = true) : ∀ l : List α, beqs (l.map e) (l.map e) = true
  | [] => by simp
  | x :: l => by simp [h, beqs_map e h l]
theorem beq_encL {α : Type} {z : Nat} {e : α → D} (h : ∀ x, beq (e x) (e x) = true) (b : Option (List α)) : beq (encL z e b) (encL z e b) = true := by
  cases b with
  | none => simp [encL]
  | some l => simp [encL, beqs_map e h l]
@[simp] theorem beq_instr (x : Instr) : beq (encInstr x) (encInstr x) = true := by simp
@[simp] theorem beq_code (c : Option (List Instr)) : beq (encL 3 encInstr c) (encL 3 encInstr c) = true := beq_encL beq_instr c
@[simp] theorem beq_func (f : Fu) : beq (encFunc f) (encFunc f) = true := by simp
@[simp] theorem beq_prog (p : Option (List Fu)) : beq (encL 4 encFunc p) (encL 4 encFunc p) = true := beq_encL beq_func p
@[simp] theorem ev_nilp (σ) : ev σ (.const (.pointer none)) = some .nil := by simp [ev, ofVal, ofVal1]
@[simp] theorem ev_nilf (σ) : ev σ (.const .nilFunc) = some .nilf := by simp [ev, ofVal, ofVal1]
@[simp] theorem ev_nili (σ) : ev σ (.const .nilIface) = some .nili := by simp [ev, ofVal, ofVal1]
theorem op_nilp {P : Program} {cfg : Cfg} {run : Run} (dst ty pos af g st x) : opD P cfg run ⟨dst, .nilCheck x, ty, pos, af, g⟩ st = (ev st.σ x).bind fun d => match d with | .ptr id ver i j => some (.ptr id ver i j, st.h) | .fptr z xs i j => some (.fptr z xs i j, st.h) | _ => none := by
  simp only [opD]; cases ev st.σ x with
  | none => rfl
  | some d => cases d <;> rfl
theorem wru {n : Int} (h1 : 0 ≤ n) (h2 : n < 2 ^ 64) : IntKind.u64.wrap n = n := IntWalk.u64_in _ (by omega)
theorem semPure_und {P : Program} {α : Type} {t : TypeId} {d : TypeDesc} (h : P.underlying t = some d) (f : TypeDesc → Sem α) : semPure P (Go.underlying t >>= f) = semPure P (f d) := by
  have e : semPure P (Go.underlying t >>= f) = semPure P ((match P.underlying t with | some d => (pure d : Sem TypeDesc) | none => stuck "no such type") >>= f) := rfl
  rw [e, h]; rfl
theorem cv_int {P : Program} {s d : Nat} {k1 k2 : IntKind} (hs : P.underlying s = some (.int k1)) (hd : P.underlying d = some (.int k2)) (k : IntKind) (n : Int) : pure1 P (convert s d (.int k n)) = some (.int k2 (k2.wrap n)) := by
  unfold pure1 convert
  rw [semPure_und hs, semPure_und hd]
  rfl
theorem bmul_in : ∀ n : Fin 201, beqo (fnc Try.prog cfg (exec Try.prog cfg 60) 53 [.int .u64 1, .int .u64 n.val]) (some (.tup [.int .u64 0, .int .u64 n.val])) = true := by decide +kernel
theorem bmul_spec (n : Nat) (h : n ≤ 200) : fnc Try.prog cfg R 53 [.int .u64 1, .int .u64 n] = some (.tup [.int .u64 0, .int .u64 n]) := eval_k 60 (bmul_in ⟨n, by omega⟩)
/-- a row that is filled up to a place -/
def filled (n k : Nat) : List Int := List.replicate k (-1) ++ List.replicate (n - k) 0
theorem filled_len (n k : Nat) (h : k ≤ n) : (filled n k).length = n := by simp [filled]; omega
theorem filled_more (n k : Nat) (h : k ≤ n) (m : Nat) (hm : m ≤ n - k) (hk : m ≤ k) : (filled n k).take k ++ ((filled n k).take k).take m ++ (filled n k).drop (k + m) = filled n (k + m) := by
  have e1 : (filled n k).take k = List.replicate k (-1) := by unfold filled; rw [List.take_append_of_le_length (by simp), List.take_of_length_le (by simp)]
  rw [e1]
  have e2 : (filled n k).drop (k + m) = List.replicate (n - (k + m)) 0 := by
    unfold filled
    rw [List.drop_append, List.drop_eq_nil_of_le (by simp)]
    simp
    omega
  rw [e2, List.take_replicate, Nat.min_eq_left hk]
  unfold filled
  rw [List.replicate_append_replicate]
theorem repeat_loop (n : Nat) (hn : n ≤ 200) (id : Nat) {X : Type} (K : Ex × St → Option X) (Q : Option X → Prop) (H0 : List Ob) (hid : id = H0.length) : ∀ (m k : Nat) (σ : Nat → D), n - k ≤ m → 1 ≤ k → k ≤ n →
    σ 7 = .own 1 id 0 0 n → σ 8 = I k →
    (∀ σ', σ' 7 = .own 1 id 0 0 n → Q (K (.exit 0, ⟨σ', H0 ++ [⟨0, 1, (List.replicate n (-1 : Int)).map I, 0⟩], 48⟩))) →
    Q ((W Try.prog cfg (.loop (loopAt Try.f39 8)) ⟨σ, H0 ++ [⟨0, 1, (filled n k).map I, 0⟩], 48⟩).bind K) := by
  intro m
  induction m with
  | zero =>
    intro k σ hm h1 h2 s7 s8 hK
    obtain rfl : k = n := by omega
    have hf : filled k k = List.replicate k (-1) := by simp [filled]
    rw [Wloop]
    conv => arg 1; arg 1; arg 1; simp [loopAt, loopIn, headId, Try.f39, s7, s8]
    rw [hf]
    exact hK _ (by simp [s7])
  | succ m ih =>
    intro k σ hm h1 h2 s7 s8 hK
    by_cases hkn : k = n
    · subst hkn
      have hf : filled k k = List.replicate k (-1) := by simp [filled]
      rw [Wloop]
      conv => arg 1; arg 1; arg 1; simp [loopAt, loopIn, headId, Try.f39, s7, s8]
      rw [hf]
      exact hK _ (by simp [s7])
    · have hlt : decide (k < n) = true := dt (by omega)
      have hd := dr39_9
      simp [opsAt, opsIn, Try.f39] at hd
      have hdw := Wdraw0 hd
      clear hd
      subst hid
      have hfl := filled_len n k h2
      have sl1 : ∀ h, sliceD Try.prog h 30 (.own 1 H0.length 0 0 n) (some (I k)) none none = some (.own 1 H0.length 0 k (n - k), h) := fun h => by simp [sliceD, bndD, h2]
      have sl2 : ∀ h, sliceD Try.prog h 30 (.own 1 H0.length 0 0 n) none (some (I k)) none = some (.own 1 H0.length 0 0 k, h) := fun h => by simp [sliceD, bndD, h2]
      have hmin : Nat.min k (n - k) = min k (n - k) := rfl
      have e1 : ((filled n k).map I).take k = ((filled n k).take k).map I := List.map_take.symm
      have hel : elsZ (H0 ++ [⟨0, 1, (filled n k).map I, 0⟩]) 1 (.own 1 H0.length 0 0 k) = some (((filled n k).take k).map I) := by
        rw [elsZ_own, elsOf_own, get_app0 rfl]; simp only [List.getElem?_cons_zero, Option.bind_some, List.length_map, hfl, Nat.zero_add, List.drop_zero, h2, and_self, if_true, e1]
      have hlen : (((filled n k).take k).map I).length = k := by simp [hfl]; omega
      have hcp : cpN 1 (H0 ++ [⟨0, 1, (filled n k).map I, 0⟩]) (.own 1 H0.length 0 k (n - k)) (Nat.min k (n - k)) (((filled n k).take k).map I) = some (.int .i64 (Nat.min k (n - k) : Nat), H0 ++ [⟨0, 1, (filled n (k + Nat.min k (n - k))).map I, 0⟩]) := by
        have hm0 : Nat.min k (n - k) ≠ 0 := by show min k (n - k) ≠ 0; omega
        unfold cpN
        rw [if_neg hm0]
        simp only [get_app0 (h := H0) rfl, List.getElem?_cons_zero]
        rw [if_pos (by simp [hfl]; omega)]
        simp only [set_app0 (h := H0) rfl, List.set_cons_zero]
        rw [← filled_more n k h2 (Nat.min k (n - k)) (Nat.min_le_right _ _) (Nat.min_le_left _ _)]
        simp [List.map_take, List.map_drop]
      have hmk : k + Nat.min k (n - k) ≤ n := by have := Nat.min_le_right k (n - k); have : Nat.min k (n - k) ≤ n - k := Nat.min_le_right _ _; omega
      have hw : IntKind.i64.wrap ((k : Int) + (Nat.min k (n - k) : Nat)) = ((k + Nat.min k (n - k) : Nat) : Int) := wr (by omega) (by omega)
      have hm1 : 1 ≤ Nat.min k (n - k) := by show 1 ≤ min k (n - k); omega
      rw [Wloop]
      conv => arg 1; arg 1; arg 1; simp [loopAt, loopIn, headId, Try.f39, s7, s8, hlt, hdw, sl1, sl2, hel, hlen, hcp, hw, -List.map_take]
      rw [Option.bind_some, loopK_normal]
      exact ih (k + Nat.min k (n - k)) _ (by omega) (by omega) hmk (by simp [s7]) (by simp) hK
theorem repeat_spec (n : Nat) (h1 : 1 ≤ n) (hn : n ≤ 200) (H : List Ob) : body Try.prog R 39 [.sl 1 [I (-1)] false, I n] H = some (.own 1 H.length 0 0 n, H ++ [⟨0, 1, (List.replicate n (-1 : Int)).map I, 0⟩]) := by
  have hmk := fun (hp : List Ob) => mk_slice (P := Try.prog) el30 sz3 by3 ze3 (by simp) (by decide) (by decide) hp .i64 .i64 n n (by omega) (by omega) (by omega)
  simp only [Int.toNat_natCast] at hmk
  have c1 : pure1 Try.prog (convert 3 83 (.int .i64 1)) = some (.int .u64 1) := by rw [cv_int un3 un83, wru (by omega) (by omega)]
  have c2 : pure1 Try.prog (convert 3 83 (.int .i64 n)) = some (.int .u64 n) := by
    rw [cv_int un3 un83, wru (by omega) (by omega)]
  have c3 : pure1 Try.prog (convert 83 3 (.int .u64 n)) = some (.int .i64 n) := by
    rw [cv_int un83 un3, wr (by omega) (by omega)]
  have hb := bmul_spec n hn
  have d1 : decide ((n : Int) < 0) = false := df (by omega)
  have d2 : decide ((9223372036854775807 : Int) < n) = false := df (by omega)
  have hf : List.replicate n (D.int .i64 0) = (List.replicate n (0 : Int)).map I := by simp
  rw [hf] at hmk
  have hcp : cpN 1 (H ++ [⟨0, 1, (List.replicate n (0 : Int)).map I, 0⟩]) (.own 1 H.length 0 0 n) (Nat.min 1 n) [I (-1)] = some (.int .i64 1, H ++ [⟨0, 1, (filled n 1).map I, 0⟩]) := by
    have e : Nat.min 1 n = 1 := by show min 1 n = 1; omega
    rw [e]; unfold cpN
    rw [if_neg (by omega)]
    simp only [get_app0 (h := H) rfl, List.getElem?_cons_zero]
    rw [if_pos (by simp)]
    simp only [set_app0 (h := H) rfl, List.set_cons_zero]
    simp [filled, List.drop_replicate]
  rw [body_eq Try.func39 rfl rfl]
  simp [argsσ, c1, c2, c3, hb, d1, d2, hmk, hcp, Option.bind_assoc, -List.map_replicate]
  refine repeat_loop n hn H.length _ (fun o => o = some _) H rfl n 1 _ (by omega) (Nat.le_refl _) h1 (by simp) (by simp) ?_
  intro σ' s7
  simp [s7, Vm.results, -List.map_replicate]
/-- a checker's cells -/
@[reducible] def encC (p : Option (List Fu)) (f : Fu) (di ni n : Nat) (pl : Int) : D := .agg [encProg p, I f.arity, I f.locals, I f.slots, encCode f.code, .own 1 di 0 0 n, .own 1 ni 0 0 n, I pl]
theorem newc_spec (p : Option (List Fu)) (i : Nat) (f : Fu) (hf : (p.getD [])[i]? = some f) (h1 : 1 ≤ f.c.length) (hn : f.c.length ≤ 200) (H : List Ob) :
    body Try.prog R 24 [encProg p, I i] H = some (.ptr (H.length + 3) 0 0 0, H ++ [⟨0, 4, [encFunc f], 0⟩, ⟨0, 1, (List.replicate f.c.length (-1 : Int)).map I, 0⟩, ⟨0, 1, (List.replicate f.c.length false).map D.bool, 0⟩,
      ⟨0, 8, [encC p f (H.length + 1) (H.length + 2) f.c.length 0], 0⟩]) := by
  have hlt : i < (p.getD []).length := (List.getElem?_eq_some_iff.1 hf).1
  have hx := idxD_nat .i64 hlt
  have hR := repeat_spec f.c.length h1 hn (H ++ [⟨0, 4, [encFunc f], 0⟩])
  have hcl : (f.code.getD []).length = f.c.length := rfl
  have hmk2 := fun (hp : List Ob) => mk_slice (P := Try.prog) el51 sz4 by4 ze4 (by simp) (by decide) (by decide) hp .i64 .i64 f.c.length f.c.length (by omega) (by omega) (by omega)
  simp only [Int.toNat_natCast] at hmk2
  have r2 : List.replicate f.c.length (D.bool false) = (List.replicate f.c.length false).map D.bool := by simp
  rw [r2] at hmk2
  have hd := dr24_2
  simp [opsAt, opsIn, Try.f24] at hd
  have hdw := Wdraw hd
  clear hd
  rw [body_eq Try.func24 rfl rfl]
  simp [argsσ, hx, hf, hdw, hR, hcl, hmk2, Vm.results, -List.map_replicate, logL, loud, isE, drawChk]
end Go.Proofs.YtcbmmiglccmekaaW.Rg
