import Derived.Test.YtclfpfdpaigdiaaVmR8
import Derived.Test.YtclfpfdpaigdiaaVmR10
set_option linter.unusedVariables false
set_option linter.unusedSimpArgs false
namespace Go.Proofs.YtclfpfdpaigdiaaW.Rg
open Go.Proofs.YtclfpfdpaigdiaaW.Vm
open Go Go.Proofs
@[simp] theorem evo_none (σ) : evo σ none = some none := rfl
@[simp] theorem evo_some (σ x) : evo σ (some x) = (ev σ x).map some := rfl
def norm (r : Ring) : Ring := { r with buf := some r.l }
theorem norm_l (r : Ring) : (norm r).l = r.l := rfl
theorem pushed_norm (r : Ring) (x : Ref) : pushed (norm r) x = pushed r x := by
  unfold pushed
  show laid (if r.many = r.l.length then grown (norm r) else norm r) x = _
  split <;> rfl
theorem norm_pushes (r : Ring) (l : List Ref) : norm (pushes (norm r) l) = norm (pushes r l) := by
  cases l with
  | nil => rfl
  | cons x l => show norm (pushes (pushed (norm r) x) l) = _; rw [pushed_norm]; rfl
theorem pushes_app (r : Ring) (a b : List Ref) : pushes (pushes r a) b = pushes r (a ++ b) := by simp [pushes]
theorem push_full {r : Ring} (h : Ok r) (b : Option (List Ref)) (hs : (b.getD []).length < 2 ^ 62) (hl : r.most < r.many + (b.getD []).length) : fnc Try.prog cfg R 11 [encRing r, encS b] = some (.tup [encRing r, I 110]) := by
  have := h.h1; have := h.h2; have := h.h3; have := h.h6; have := h.h7
  have hw : IntKind.i64.wrap (r.many + ((b.getD []).length : Int)) = r.many + (b.getD []).length := IntWalk.i64_in _ (by omega)
  have hgt : decide (r.most < r.many + ((b.getD []).length : Int)) = true := by simp; omega
  rw [fnc_eq cfg_ext, body_eq Try.func11 rfl rfl]
  simp [argsσ, Vm.results, may_ok h, hw, hgt]
theorem same_self (r : Ring) (hl : r.l.length < 2 ^ 62) : fnc Try.prog cfg R 21 [encRing r, encRing r] = some (.bool true) := by
  have hR := refs_spec r.buf r.buf hl
  simp at hR
  rw [fnc_eq cfg_ext, body_eq Try.func21 rfl rfl]
  simp [argsσ, Vm.results, hR]
theorem sl_hi (b : Option (List Ref)) (c : Nat) (hc : c ≤ (b.getD []).length) (h : List Ob) : sliceD Try.prog h 22 (encS b) none (some (I c)) none = some (encS (b.map (·.take c)), h) := by
  cases b with
  | none => have : c = 0 := by simpa using hc
            subst this; simp [sliceD, bndD]
  | some l =>
    have hc : c ≤ l.length := hc
    simp [sliceD, bndD, hc, List.map_take]
theorem sl_lo (b : Option (List Ref)) (c : Nat) (hc : c ≤ (b.getD []).length) (h : List Ob) : sliceD Try.prog h 22 (encS b) (some (I c)) none none = some (encS (b.map (·.drop c)), h) := by
  cases b with
  | none => have : c = 0 := by simpa using hc
            subst this; simp [sliceD, bndD]
  | some l =>
    have hc : c ≤ l.length := hc
    simp [sliceD, bndD, hc, List.map_drop, List.take_of_length_le]
/-- how the places grow -/
theorem pushed_len (r : Ring) (h : Ok r) (hm : r.many < r.most) (x : Ref) : (pushed r x).l.length = r.l.length ∨ (r.l.length ≤ (pushed r x).l.length ∧ ((pushed r x).l.length : Int) ≤ 2 * r.many) := by
  unfold pushed
  split
  · rename_i h0
    right
    have hil : (items r).length = r.l.length := by simp [items]; omega
    have hgl : ((grown r).l.length : Int) = min (2 * (r.l.length : Int)) r.most := by
      show (((some (items r ++ _)).getD []).length : Int) = _
      have := h.h6
      rw [Option.getD_some, List.length_append, hil, List.length_replicate]
      have := h.h1
      omega
    rw [laid_l, List.length_set]
    have := h.h1
    omega
  · left; rw [laid_l, List.length_set]
theorem pushes_len : ∀ (l : List Ref) (r : Ring), Ok r → r.many + l.length ≤ r.most → r.l.length ≤ (pushes r l).l.length ∧ ((pushes r l).l.length = r.l.length ∨ ((pushes r l).l.length : Int) ≤ 2 * (r.many + l.length))
  | [], r, h, _ => ⟨Nat.le_refl _, .inl rfl⟩
  | x :: l, r, h, hl => by
    simp only [List.length_cons] at hl ⊢
    obtain ⟨e1, e2⟩ := pushed_many r x
    have hp := pushed_len r h (by omega) x
    obtain ⟨a, b⟩ := pushes_len l (pushed r x) (h.pushed (by omega) x) (by rw [e1, e2]; omega)
    rw [e1] at b
    show r.l.length ≤ (pushes (pushed r x) l).l.length ∧ ((pushes (pushed r x) l).l.length = r.l.length ∨ ((pushes (pushed r x) l).l.length : Int) ≤ _)
    refine ⟨by omega, ?_⟩
    rcases hp with hp | ⟨hp1, hp2⟩ <;> rcases b with b | b <;> omega
theorem parts_law (r : Ring) (b : Option (List Ref)) (cut : Int) (hl : r.l.length ≤ maxLen) (hb : (b.getD []).length ≤ maxLen) : fnc Try.prog cfg R 6 [encRing r, encS b, I cut] = some (.bool true) := by
  have hml : maxLen = 2 ^ 63 - 1 := rfl
  rw [fnc_eq cfg_ext, body_eq Try.func6 rfl rfl]
  have hsm := small_spec r
  have hmy := rmay_spec r
  cases hs : decide (r.l.length ≤ 60)
  · rw [hs] at hsm
    simp [argsσ, Vm.results, fixed_ok, hsm]
  rw [hs] at hsm
  cases h20 : decide ((20 : Int) < (b.getD []).length)
  case true => simp [argsσ, Vm.results, fixed_ok, hsm, h20]
  cases hc0 : decide (cut < 0)
  case true => simp [argsσ, Vm.results, fixed_ok, hsm, h20, hc0]
  cases hc1 : decide ((b.getD []).length < cut)
  case true => simp [argsσ, Vm.results, fixed_ok, hsm, h20, hc0, hc1]
  cases hm : may r
  · rw [hm] at hmy
    simp [argsσ, Vm.results, fixed_ok, hsm, h20, hc0, hc1, hmy]
  rw [hm] at hmy
  have h := (may_iff r).1 hm
  have hs : r.l.length ≤ 60 := by simpa using hs
  have h20' : (b.getD []).length ≤ 20 := by have := of_decide_eq_false h20; omega
  have hc0' : 0 ≤ cut := by have := of_decide_eq_false hc0; omega
  have hc1' : cut ≤ (b.getD []).length := by have := of_decide_eq_false hc1; omega
  obtain ⟨c, hcc⟩ : ∃ c : Nat, cut = c := ⟨cut.toNat, by omega⟩
  have hc : c ≤ (b.getD []).length := by omega
  have := h.h2; have := h.h3; have := h.h6; have := h.h7; have := h.h1
  have hsl := sl_hi b c hc
  have hsr := sl_lo b c hc
  rw [← hcc] at hsl hsr
  have e1 : (b.map (·.take c)).getD [] = (b.getD []).take c := by cases b <;> simp
  have e2 : (b.map (·.drop c)).getD [] = (b.getD []).drop c := by cases b <;> simp
  have l1 : ((b.getD []).take c).length = c := by simp; omega
  have l2 : ((b.getD []).drop c).length = (b.getD []).length - c := by simp
  have hd4 := dr6_4
  simp [opsAt, opsIn, Try.f6] at hd4
  have hdw4 := Wdraw0 hd4
  have hd7 := dr6_7
  simp [opsAt, opsIn, Try.f6] at hd7
  have hdw7 := Wdraw0 hd7
  clear hd4 hd7
  have hlen : ∀ a : Ring, (a.buf.getD []).length = a.l.length := fun _ => rfl
  by_cases hC : r.many + c ≤ r.most
  case neg =>
    have P1 := push_full h b (by omega) (by omega)
    have P2 := push_full h (b.map (·.take c)) (by rw [e1, l1]; omega) (by rw [e1, l1]; omega)
    simp [argsσ, Vm.results, fixed_ok, hsm, h20, hc0, hc1, hmy, P1, P2, hdw4, hsl]
  have P2 := push_ok h (b.map (·.take c)) (by rw [e1, l1]; exact hC)
  rw [e1] at P2
  obtain ⟨ok2, m2, t2⟩ := pushes_ok ((b.getD []).take c) r h (by rw [l1]; exact hC)
  have ok2' := ok_buf ok2
  by_cases hA : r.many + (b.getD []).length ≤ r.most
  case neg =>
    have P1 := push_full h b (by omega) (by omega)
    have P3 := push_full ok2' (b.map (·.drop c)) (by rw [e2, l2]; omega) (by show (pushes r _).most < (pushes r _).many + _; rw [e2, l2, t2, m2, l1]; omega)
    generalize ({ pushes r ((b.getD []).take c) with buf := some (pushes r ((b.getD []).take c)).l } : Ring) = r2 at *
    simp [argsσ, Vm.results, fixed_ok, hsm, h20, hc0, hc1, hmy, P1, P2, P3, hdw4, hdw7, hsl, hsr]
  have P1 := push_ok h b hA
  have P3 := push_ok ok2' (b.map (·.drop c)) (by show (pushes r _).many + _ ≤ (pushes r _).most; rw [e2, l2, t2, m2, l1]; omega)
  rw [e2] at P3
  obtain ⟨okA, mA, tA⟩ := pushes_ok (b.getD []) r h hA
  obtain ⟨n1, n2⟩ := pushes_len (b.getD []) r h hA
  have e3 : norm (pushes (norm (pushes r ((b.getD []).take c))) ((b.getD []).drop c)) = norm (pushes r (b.getD [])) := by rw [norm_pushes, pushes_app, List.take_append_drop]
  have P3 : fnc Try.prog cfg R 11 [encRing (norm (pushes r ((b.getD []).take c))), encS (b.map (·.drop c))] = some (.tup [encRing (norm (pushes r (b.getD []))), I 0]) := by rw [← e3]; exact P3
  have P2 : fnc Try.prog cfg R 11 [encRing r, encS (b.map (·.take c))] = some (.tup [encRing (norm (pushes r ((b.getD []).take c))), I 0]) := P2
  have P1 : fnc Try.prog cfg R 11 [encRing r, encS b] = some (.tup [encRing (norm (pushes r (b.getD []))), I 0]) := P1
  have q1 := okA.h2; have q2 := okA.h3; have q3 := okA.h6
  rw [show (pushes r (b.getD [])).l = (norm (pushes r (b.getD []))).l from rfl] at n1 n2 q1
  rw [show (pushes r (b.getD [])).most = (norm (pushes r (b.getD []))).most from rfl] at tA q1 q2
  rw [show (pushes r (b.getD [])).many = (norm (pushes r (b.getD []))).many from rfl] at mA q3
  generalize norm (pushes r (b.getD [])) = a at *
  generalize norm (pushes r ((b.getD []).take c)) = a2 at *
  have hS := same_self a (by omega)
  have hw : IntKind.i64.wrap (2 * a.many) = 2 * a.many := IntWalk.i64_in _ (by omega)
  have d1 : decide ((a.l.length : Int) ≤ r.most) = true := decide_eq_true (by omega)
  have d2 : decide (r.l.length ≤ a.l.length) = true := decide_eq_true n1
  have d2' : decide ((r.l.length : Int) ≤ a.l.length) = true := decide_eq_true (by omega)
  have d5 : decide (a.most = r.most) = true := decide_eq_true tA
  cases d3 : decide (a.l.length = r.l.length)
  · have d3' : decide ((a.l.length : Int) = r.l.length) = false := decide_eq_false (by have := of_decide_eq_false d3; omega)
    have d4 : decide ((a.l.length : Int) ≤ 2 * a.many) = true := decide_eq_true (by have := of_decide_eq_false d3; omega)
    simp [argsσ, Vm.results, fixed_ok, hsm, h20, hc0, hc1, hmy, P1, P2, P3, hdw4, hdw7, hsl, hsr, hlen, hS, hw, d1, d2, d2', d3, d3', d4, d5]
  · have d3' : decide ((a.l.length : Int) = r.l.length) = true := decide_eq_true (by have := of_decide_eq_true d3; omega)
    simp [argsσ, Vm.results, fixed_ok, hsm, h20, hc0, hc1, hmy, P1, P2, P3, hdw4, hdw7, hsl, hsr, hlen, hS, hw, d1, d2, d2', d3, d3', d5]
end Go.Proofs.YtclfpfdpaigdiaaW.Rg
