/- What the document's answer computes. No conditions. -/
import Derived.Test.YtclfpfdpaigdiaaVmRPop
set_option linter.unusedVariables false
set_option linter.unusedSimpArgs false
namespace Go.Proofs.YtclfpfdpaigdiaaW.Rg
open Go.Proofs.YtclfpfdpaigdiaaW.Vm
open Go Go.Proofs
theorem wr {n : Int} (h1 : -2 ^ 63 ≤ n) (h2 : n < 2 ^ 63) : IntKind.i64.wrap n = n := IntWalk.i64_in _ (by omega)
theorem dt {p : Prop} [Decidable p] (h : p) : decide p = true := decide_eq_true h
theorem df {p : Prop} [Decidable p] (h : ¬ p) : decide p = false := decide_eq_false h
theorem items_len {r : Ring} (h : Ok r) : (items r).length = r.many.toNat := by simp [items]
theorem items_get (r : Ring) {j : Nat} (hj : j < r.many.toNat) : (items r)[j]? = some (item r j) := by simp [items, List.getElem?_range hj]
theorem cl_refs : ∀ l : List Ref, cleans (l.map encRef) = true
  | [] => rfl
  | x :: l => by simp [cl_refs l]
/-! what the document's answer computes -/
theorem rnew_ok (room most : Int) (h1 : inb most 1 1024 = true) (h2 : inb room 1 most = true) : fnc Try.prog cfg R 20 [I room, I most] = some (.tup [encRing (newRing room most), .bool true]) := by
  have hb : 1 ≤ room ∧ room ≤ most ∧ most ≤ 1024 := by simp [inb] at h1 h2; omega
  obtain ⟨n, hn⟩ : ∃ n : Nat, room = n := ⟨room.toNat, by omega⟩
  have c1 : decide (most < 1) = false := decide_eq_false (by omega)
  have c2 : decide (1024 < most) = false := decide_eq_false (by omega)
  have c3 : decide (room < 1) = false := decide_eq_false (by omega)
  have c4 : decide (most < room) = false := decide_eq_false (by omega)
  have hmk := fun (hp : List Ob) => mk_slice (P := Try.prog) el22 sz33 by33 ze33 (by simp) (by decide) (by decide) hp .i64 .i64 room room (by omega) (by omega) (by omega)
  rw [show room.toNat = n by omega] at hmk
  rw [rep_refs] at hmk
  have e : newRing room most = { buf := some (List.replicate n rf0), head := 0, many := 0, most := most } := by unfold newRing; rw [show room.toNat = n by omega]
  rw [fnc_eq cfg_ext, body_eq Try.func20 rfl rfl, e]
  simp [argsσ, Vm.results, c1, c2, c3, c4, hmk, exp_own, elsOf_own, List.take_of_length_le, cleans_refs, encRing, -List.map_replicate]
theorem rnew_no (room most : Int) (h : (inb most 1 1024 && inb room 1 most) = false) : fnc Try.prog cfg R 20 [I room, I most] = some (.tup [encRing noRing, .bool false]) := by
  rw [fnc_eq cfg_ext, body_eq Try.func20 rfl rfl]
  cases c1 : decide (most < 1)
  case true => simp [argsσ, Vm.results, c1, noRing]
  cases c2 : decide (1024 < most)
  case true => simp [argsσ, Vm.results, c1, c2, noRing]
  cases c3 : decide (room < 1)
  case true => simp [argsσ, Vm.results, c1, c2, c3, noRing]
  cases c4 : decide (most < room)
  case true => simp [argsσ, Vm.results, c1, c2, c3, c4, noRing]
  have := of_decide_eq_false c1; have := of_decide_eq_false c2; have := of_decide_eq_false c3; have := of_decide_eq_false c4
  exfalso
  have e1 : inb most 1 1024 = true := by simp [inb]; omega
  have e2 : inb room 1 most = true := by simp [inb]; omega
  rw [e1, e2] at h; cases h
theorem rmay_ok {r : Ring} (h : Ok r) : fnc Try.prog cfg R 26 [encRing r] = some (.bool true) := by rw [rmay_spec, (may_iff r).2 h]
theorem rmay_no {r : Ring} (h : ¬ Ok r) : fnc Try.prog cfg R 26 [encRing r] = some (.bool false) := by
  rw [rmay_spec]
  cases hm : may r with
  | true => exact absurd ((may_iff r).1 hm) h
  | false => rfl

/-- a list that grows by appends, from nothing -/
def outD (b : Nat) (l : List Ref) (ver : Nat) : D := if l = [] then .sl 2 [] true else .own 2 b ver 0 l.length
def outH (l : List Ref) (ver : Nat) : List Ob := if l = [] then [] else [⟨ver, 2, l.map encRef, 0⟩]
def outV (l : List Ref) (ver : Nat) : Nat := if l = [] then 0 else ver + 1
theorem outD_nil (b ver : Nat) : outD b [] ver = .sl 2 [] true := rfl
theorem outH_nil (ver : Nat) : outH [] ver = [] := rfl
theorem out_els (h0 : List Ob) (b : Nat) (hb : h0.length = b) (l : List Ref) (ver : Nat) : elsZ (h0 ++ outH l ver) 2 (outD b l ver) = some (l.map encRef) := by
  subst hb
  unfold outH outD
  by_cases hl : l = []
  · subst hl; simp
  · simp only [if_neg hl]
    rw [elsZ_own, elsOf_own, get_app0 rfl]
    simp only [List.getElem?_cons_zero, Option.bind_some]
    rw [if_pos (by simp), List.drop_zero, take_refs]
theorem out_app (h0 : List Ob) (b : Nat) (hb : h0.length = b) (l : List Ref) (ver : Nat) (x : Ref) (hl : l.length < 2 ^ 40) :
    apK 16 2 (h0 ++ outH l ver) (outD b l ver) (l.map encRef) [encRef x] = some (outD b (l ++ [x]) (outV l ver), h0 ++ outH (l ++ [x]) (outV l ver)) := by
  subst hb
  rw [apK_ok (by simp only [List.length_cons, List.length_nil, List.length_map]; omega)]
  unfold outH outD outV
  by_cases h : l = []
  · subst h; simp [apN_sl', newOb]
  · simp only [if_neg h]
    rw [apN_own' (by simp), get_app0 rfl]
    simp [set_app0]
theorem out_exp (h0 : List Ob) (b : Nat) (hb : h0.length = b) (l : List Ref) (ver : Nat) : exp1 (h0 ++ outH l ver) (outD b l ver) = some (encS (some l)) := by
  subst hb
  unfold outH outD
  by_cases hl : l = []
  · subst hl; simp
  · simp only [if_neg hl]
    rw [exp_own, elsOf_own, get_app0 rfl]
    simp only [List.getElem?_cons_zero, Option.bind_some]
    rw [if_pos (by simp), List.drop_zero, take_refs, Option.bind_some, ownK_clean _ _ _ (cl_refs l)]
    rfl
theorem ritems_loop (r : Ring) (h : Ok r) {X : Type} (K : Ex × St → Option X) (Q : Option X → Prop) : ∀ (m i : Nat) (ver : Nat) (σ : Nat → D), i + m = r.many.toNat →
    σ 1 = .ptr 0 0 0 0 → σ 3 = outD 1 ((items r).take i) ver → σ 4 = I i →
    (∀ σ' ver', σ' 3 = outD 1 (items r) ver' → Q (K (.exit 0, ⟨σ', [⟨0, 4, [encRing r], 0⟩] ++ outH (items r) ver', 40⟩))) →
    Q ((W Try.prog cfg (.loop (loopAt Try.f24 3)) ⟨σ, [⟨0, 4, [encRing r], 0⟩] ++ outH ((items r).take i) ver, 40⟩).bind K) := by
  intro m
  induction m with
  | zero =>
    intro i ver σ hm s1 s3 s4 hK
    have := h.h6
    have e : decide ((i : Int) < r.many) = false := decide_eq_false (by omega)
    have hil := items_len h
    rw [List.take_of_length_le (by omega)] at s3 ⊢
    have h0 : ([(⟨0, 4, [encRing r], 0⟩ : Ob)] ++ outH (items r) ver)[0]? = some ⟨0, 4, [encRing r], 0⟩ := rfl
    have hK' := fun σ' => hK σ' ver
    generalize [(⟨0, 4, [encRing r], 0⟩ : Ob)] ++ outH (items r) ver = H at *
    rw [Wloop]
    conv => arg 1; arg 1; arg 1; simp [loopAt, loopIn, headId, Try.f24, s1, s4, h0, e]
    exact hK' _ (by simp [s3])
  | succ m ih =>
    intro i ver σ hm s1 s3 s4 hK
    have := h.h1; have := h.h2; have := h.h3; have := h.h4; have := h.h5; have := h.h6; have := h.h7
    have e : decide ((i : Int) < r.many) = true := decide_eq_true (by omega)
    obtain ⟨hd, hhd⟩ : ∃ n : Nat, r.head = n := ⟨r.head.toNat, by omega⟩
    have hq : (hd + i) % r.l.length = if hd + i < r.l.length then hd + i else hd + i - r.l.length := mod_two (by omega)
    have hit : item r i = r.l.getD ((hd + i) % r.l.length) rf0 := by rw [item, hhd]; rfl
    have hql : (hd + i) % r.l.length < r.l.length := Nat.mod_lt _ (by omega)
    have hw1 : IntKind.i64.wrap (r.head + i) = r.head + i := IntWalk.i64_in _ (by omega)
    have hwi : IntKind.i64.wrap ((i : Int) + 1) = ((i + 1 : Nat) : Int) := IntWalk.i64_in _ (by omega)
    obtain ⟨q, hqq⟩ : ∃ q, (hd + i) % r.l.length = q := ⟨_, rfl⟩
    rw [hqq] at hq hit hql
    have hg := l_get r hql
    rw [← hit] at hg
    have hix := ix_encS r.buf q (by constructor; omega; show (q : Int) < r.l.length; omega)
    rw [show (q : Int).toNat = q by simp] at hix
    have hbl : (r.buf.getD []).length = r.l.length := rfl
    have htl : ((items r).take i).length = i := by rw [List.length_take, items_len h]; omega
    have hel := out_els [⟨0, 4, [encRing r], 0⟩] 1 rfl ((items r).take i) ver
    have hap := out_app [⟨0, 4, [encRing r], 0⟩] 1 rfl ((items r).take i) ver (item r i) (by omega)
    have h0 : ([(⟨0, 4, [encRing r], 0⟩ : Ob)] ++ outH ((items r).take i) ver)[0]? = some ⟨0, 4, [encRing r], 0⟩ := rfl
    rw [show ((items r).take i ++ [item r i]) = (items r).take (i + 1) by rw [List.take_add_one, items_get r (by omega)]; rfl] at hap
    have ih' := fun (σ2 : Nat → D) a b c => ih (i + 1) (outV ((items r).take i) ver) σ2 (by omega) a b c hK
    generalize outV ((items r).take i) ver = ver2 at *
    generalize outD 1 ((items r).take i) ver = d1 at *
    generalize [(⟨0, 4, [encRing r], 0⟩ : Ob)] ++ outH ((items r).take i) ver = H at *
    generalize outD 1 ((items r).take (i + 1)) ver2 = d2 at *
    generalize [(⟨0, 4, [encRing r], 0⟩ : Ob)] ++ outH ((items r).take (i + 1)) ver2 = H2 at *
    rw [Wloop]
    by_cases hc : hd + i < r.l.length
    · rw [if_pos hc] at hq
      have c1 : decide ((r.l.length : Int) ≤ r.head + i) = false := decide_eq_false (by omega)
      have hqi : r.head + (i : Int) = q := by omega
      rw [hqi] at hw1 c1
      have c2 : decide (r.l.length ≤ q) = false := decide_eq_false (by omega)
      conv => arg 1; arg 1; arg 1; simp [loopAt, loopIn, headId, Try.f24, s1, s3, s4, h0, e, rmay_ok h, hqi, hw1, c1, c2, hix, hg, hbl, hel, hap, hwi, -getElem?_pos, -List.map_take]
      rw [Option.bind_some, loopK_normal]
      exact ih' _ (by simp [s1]) (by simp) (by simp)
    · rw [if_neg hc] at hq
      obtain ⟨p, hp⟩ : ∃ p : Nat, r.head + (i : Int) = p := ⟨hd + i, by omega⟩
      have c1 : decide ((r.l.length : Int) ≤ p) = true := decide_eq_true (by omega)
      have c2 : decide (r.l.length ≤ p) = true := decide_eq_true (by omega)
      rw [hp] at hw1
      have hw2 : IntKind.i64.wrap ((p : Int) - r.l.length) = q := by rw [IntWalk.i64_in _ (by omega)]; omega
      conv => arg 1; arg 1; arg 1; simp [loopAt, loopIn, headId, Try.f24, s1, s3, s4, h0, e, rmay_ok h, hp, hw1, hw2, c1, c2, hix, hg, hbl, hel, hap, hwi, -getElem?_pos, -List.map_take]
      rw [Option.bind_some, loopK_normal]
      exact ih' _ (by simp [s1]) (by simp) (by simp)
theorem ritems_ok {r : Ring} (h : Ok r) : fnc Try.prog cfg R 24 [encRing r] = some (encS (some (items r))) := by
  rw [fnc_eq cfg_ext, body_eq Try.func24 rfl rfl]
  simp [argsσ, Option.bind_assoc]
  refine ritems_loop r h _ (fun o => o = some _) r.many.toNat 0 0 _ (by omega) (by simp) (by simp [outD_nil]) (by simp) ?_
  intro σ' ver' s3
  have hE := out_exp [⟨0, 4, [encRing r], 0⟩] 1 rfl (items r) ver'
  generalize [(⟨0, 4, [encRing r], 0⟩ : Ob)] ++ outH (items r) ver' = H at *
  simp [s3, Vm.results, hE]
theorem ritems_no {r : Ring} (h : ¬ Ok r) : fnc Try.prog cfg R 24 [encRing r] = some (encS (some [])) := by
  rw [fnc_eq cfg_ext, body_eq Try.func24 rfl rfl]
  rw [show encS (some []) = .sl 2 [] false from rfl]
  cases c : decide ((0 : Int) < r.many) <;>
  simp [argsσ, Wloop, c, rmay_no h, Vm.results]
theorem items_nil {r : Ring} (h : Ok r) (h0 : r.many = 0) : items r = [] := List.eq_nil_of_length_eq_zero (by rw [items_len h, h0]; rfl)
theorem ritems_empty {r : Ring} (h : ¬ Ok r ∨ r.many = 0) : fnc Try.prog cfg R 24 [encRing r] = some (encS (some [])) := by
  by_cases ho : Ok r
  · rw [ritems_ok ho, items_nil ho (h.resolve_left (fun n => n ho))]
  · exact ritems_no ho
theorem rpop_no {r : Ring} (h : ¬ Ok r ∨ r.many = 0) : fnc Try.prog cfg R 14 [encRing r] = some (.tup [encRing r, encRef rf0, .bool false]) := by
  have hI := ritems_empty h
  rw [fnc_eq cfg_ext, body_eq Try.func14 rfl rfl]
  simp only [encS_some] at hI
  simp [argsσ, Vm.results, hI, rf0]
theorem rsteal_no {r : Ring} (h : ¬ Ok r ∨ r.many = 0) : fnc Try.prog cfg R 16 [encRing r] = some (.tup [encRing r, encRef rf0, .bool false]) := by
  have hI := ritems_empty h
  rw [fnc_eq cfg_ext, body_eq Try.func16 rfl rfl]
  simp only [encS_some] at hI
  simp [argsσ, Vm.results, hI, rf0]
theorem rpop_ok {r : Ring} (h : Ok r) (h0 : r.many ≠ 0) : fnc Try.prog cfg R 14 [encRing r] = some (.tup [encRing (popped r), encRef (item r (r.many.toNat - 1)), .bool true]) := by
  have := h.h2; have := h.h3; have := h.h6; have := h.h7
  have hI := ritems_ok h
  simp only [encS_some] at hI
  obtain ⟨n, hn⟩ : ∃ n : Nat, r.many = n + 1 := ⟨r.many.toNat - 1, by omega⟩
  have hil : ((items r).length : Int) = n + 1 := by rw [items_len h]; omega
  have e : decide (((n : Int) + 1) = 0) = false := decide_eq_false (by omega)
  have hw1 : IntKind.i64.wrap (r.many - 1) = r.many - 1 := IntWalk.i64_in _ (by omega)
  have hw2 : IntKind.i64.wrap (((n : Int) + 1) - 1) = n := by rw [IntWalk.i64_in _ (by omega)]; omega
  have hw3 : IntKind.i64.wrap (n : Int) = n := IntWalk.i64_in _ (by omega)
  have hg := items_get r (j := n) (by omega)
  have y := ix_sl (P := Try.prog) un22 sz33 ((items r).map encRef) false .i64 n (by rw [List.length_map]; omega)
  rw [show (n : Int).toNat = n by simp] at y
  rw [show r.many.toNat - 1 = n by omega]
  have hd := dr14_5
  simp [opsAt, opsIn, Try.f14] at hd
  have hdw := Wdraw hd
  clear hd
  rw [fnc_eq cfg_ext, body_eq Try.func14 rfl rfl]
  unfold popped
  simp [argsσ, Vm.results, hI, hil, e, hw1, hw2, hw3, hg, y, hdw, logL, loud, isE, drawChk]
theorem rsteal_ok {r : Ring} (h : Ok r) (h0 : r.many ≠ 0) : fnc Try.prog cfg R 16 [encRing r] = some (.tup [encRing (stolen r), encRef (item r 0), .bool true]) := by
  have := h.h1; have := h.h2; have := h.h3; have := h.h4; have := h.h5; have := h.h6; have := h.h7
  have hI := ritems_ok h
  simp only [encS_some] at hI
  have hil : (items r).length = r.many.toNat := items_len h
  obtain ⟨N, hN⟩ : ∃ N : Int, ((items r).length : Int) = N := ⟨_, rfl⟩
  have e : decide (N = 0) = false := decide_eq_false (by omega)
  have hw1 : IntKind.i64.wrap (r.many - 1) = r.many - 1 := IntWalk.i64_in _ (by omega)
  have hw2 : IntKind.i64.wrap (r.head + 1) = r.head + 1 := IntWalk.i64_in _ (by omega)
  have hg := items_get r (j := 0) (by omega)
  have y := ix_sl (P := Try.prog) un22 sz33 ((items r).map encRef) false .i64 0 (by rw [List.length_map]; omega)
  rw [show (0 : Int).toNat = 0 from rfl] at y
  have hbl : (r.buf.getD []).length = r.l.length := rfl
  have hd := dr16_8
  simp [opsAt, opsIn, Try.f16] at hd
  have hdw := Wdraw hd
  clear hd
  have hq : (r.head.toNat + 1) % r.l.length = if r.head.toNat + 1 < r.l.length then r.head.toNat + 1 else r.head.toNat + 1 - r.l.length := mod_two (by omega)
  rw [fnc_eq cfg_ext, body_eq Try.func16 rfl rfl]
  unfold stolen
  by_cases hc : r.head + 1 = r.l.length
  · have c : decide (r.head + 1 = (r.l.length : Int)) = true := decide_eq_true hc
    rw [if_neg (by omega)] at hq
    have hq : (r.head.toNat + 1) % r.l.length = 0 := by omega
    rw [hq]
    simp [argsσ, Vm.results, hI, hN, e, hw1, hw2, hg, y, hbl, c, hdw, logL, loud, isE, drawChk]
  · have c : decide (r.head + 1 = (r.l.length : Int)) = false := decide_eq_false hc
    rw [if_pos (by omega)] at hq
    have hq : (((r.head.toNat + 1) % r.l.length : Nat) : Int) = r.head + 1 := by omega
    rw [hq]
    simp [argsσ, Vm.results, hI, hN, e, hw1, hw2, hg, y, hbl, c, hdw, logL, loud, isE, drawChk]
end Go.Proofs.YtclfpfdpaigdiaaW.Rg
