import Derived.Test.YtclfpfdpaigdiaaVmR8
import Derived.Test.YtclfpfdpaigdiaaVmR10
set_option linter.unusedVariables false
set_option linter.unusedSimpArgs false
namespace Go.Proofs.YtclfpfdpaigdiaaW.Rg
open Go.Proofs.YtclfpfdpaigdiaaW.Vm
open Go Go.Proofs
theorem Ok.new (room : Int) (h1 : 1 ≤ room) (h2 : room ≤ 20) : Ok (newRing room room) := by
  have hl : ((newRing room room).l.length : Int) = room := by show (((List.replicate room.toNat rf0).length : Nat) : Int) = _; simp; omega
  exact ⟨by omega, by rw [hl]; exact Int.le_refl _, by show room ≤ 1024; omega, Int.le_refl 0, by show (0 : Int) < _; omega, Int.le_refl 0, by show (0 : Int) ≤ _; omega⟩
structure Rnd (room : Nat) (r : Ring) : Prop where
  ok : Ok r
  m0 : r.many = 0
  len : r.l.length = room
  mo : r.most = room
theorem round_loop (room : Nat) (h1 : 1 ≤ room) (h2 : room ≤ 20) (b : Option (List Ref)) (l : List Ref) (hb : b.getD [] = l) (hl : l.length ≤ 100) {X : Type} (K : Ex × St → Option X) (x : X) : ∀ (m i : Nat) (H : List Ob) (r : Ring) (σ : Nat → D), i + m = l.length →
    Rnd room r → H[0]? = some ⟨0, 4, [encRing r], 0⟩ → σ 0 = I room → σ 1 = encS b → σ 5 = .ptr 0 0 0 0 → σ 6 = .bool true → σ 7 = I i →
    (∀ σ' H' r', Rnd room r' → H'[0]? = some ⟨0, 4, [encRing r'], 0⟩ → σ' 5 = .ptr 0 0 0 0 → σ' 6 = .bool true → K (.exit 0, ⟨σ', H', 90⟩) = some x) →
    (W Try.prog cfg (.loop (loopAt Try.f7 5)) ⟨σ, H, 90⟩).bind K = some x
  | 0, i, H, r, σ, hm, hr, h0, s0, s1, s5, s6, s7, hK => by
    have hlt : decide ((i : Int) < l.length) = false := decide_eq_false (by omega)
    have hlt' : ¬ (i < l.length) := by omega
    rw [Wloop]
    conv => lhs; arg 1; arg 1; simp [loopAt, loopIn, headId, Try.f7, s7, s1, hb, hlt, hlt']
    exact hK _ H r hr h0 (by simp [s5]) (by simp [s6])
  | m + 1, i, H, r, σ, hm, hr, h0, s0, s1, s5, s6, s7, hK => by
    have hlt' : i < l.length := by omega
    have hlt : decide ((i : Int) < l.length) = true := decide_eq_true (by omega)
    have hlt2 : decide (i < l.length) = true := decide_eq_true hlt'
    have hH : 0 < H.length := by
      rcases Nat.lt_or_ge 0 H.length with h | h
      · exact h
      · rw [List.getElem?_eq_none h] at h0; cases h0
    have hg : l[i]? = some l[i] := List.getElem?_eq_getElem hlt'
    have hix := ix_encS b i (by rw [hb]; omega)
    rw [hb, show ((i : Int).toNat) = i by simp] at hix
    have hwr : IntKind.i64.wrap ((i : Int) + 1) = i + 1 := IntWalk.i64_in _ (by omega)
    generalize l[i] = y at hg
    have hP := push_ok hr.ok (some [y]) (by have := hr.m0; have := hr.mo; show r.many + (([y] : List Ref).length : Nat) ≤ r.most; simp; omega)
    have hps : pushes r ((some [y]).getD []) = laid r y := by
      show pushed r y = _
      unfold pushed; rw [if_neg (by have := hr.m0; have := hr.len; omega)]
    rw [hps] at hP
    have o1 := ok_buf (hr.ok.laid (by have := hr.m0; have := hr.len; omega) y)
    have it := items_laid r hr.ok (by have := hr.m0; have := hr.len; omega) y
    have i0 : items r = [] := by unfold items; rw [hr.m0]; rfl
    rw [i0] at it
    have hmm : (laid r y).many = 1 := by show r.many + 1 = 1; have := hr.m0; omega
    have hll : (laid r y).l.length = room := by rw [laid_l, List.length_set]; exact hr.len
    have hmo : (laid r y).most = room := hr.mo
    have hbl : (some [y] : Option (List Ref)) = some [y] := rfl
    generalize hg2 : ({ laid r y with buf := some (laid r y).l } : Ring) = a at hP o1
    have am : a.many = 1 := by rw [← hg2]; exact hmm
    have al : a.l.length = room := by rw [← hg2]; exact hll
    have ao : a.most = room := by rw [← hg2]; exact hmo
    have ai : items a = [y] := by rw [← hg2, items_buf]; exact it
    have hS := steal_ok o1 (by omega)
    have hy : item a 0 = y := by
      unfold items at ai; rw [am] at ai
      simpa using ai
    rw [hy] at hS
    have hr' : Rnd room (stolen a) := ⟨o1.stolen (by omega), by show a.many - 1 = 0; omega, al, ao⟩
    have hI := Items_ok hr'.ok
    have hI0 : items (stolen a) = [] := by unfold items; rw [hr'.m0]; rfl
    rw [hI0] at hI
    have hsb : ((stolen a).buf.getD []).length = room := hr'.len
    generalize stolen a = s at hr' hS hI hsb
    have hd := dr7_7
    simp [opsAt, opsIn, Try.f7] at hd
    have hdw := Wdraw0 hd
    have hd9 := dr7_9
    simp [opsAt, opsIn, Try.f7] at hd9
    have hdw9 := Wdraw0 hd9
    clear hd hd9
    have g0 : ∀ t, (H ++ t)[0]? = some ⟨0, 4, [encRing r], 0⟩ := fun t => by rw [get_lt hH, h0]
    have sl0 : ∀ t o, (H ++ t).set 0 o = H.set 0 o ++ t := fun t o => set_lt hH o
    have hPP : fnc Try.prog cfg R 11 [encRing r, .sl 2 [encRef y] false] = some (.tup [encRing a, I 0]) := hP
    have hnq := neq_ref
    rw [Wloop]
    conv => lhs; arg 1; arg 1; simp [loopAt, loopIn, headId, Try.f7, s0, s1, s5, s6, s7, hb, hlt, hlt2, h0, hix, hg, hwr, hdw, hdw9, g0, sl0, get_app, get_app0, set_app, set_app0, hPP, hS, hI, hsb, neq_ref, -getElem?_pos, List.getElem?_cons_zero, List.getElem?_cons_succ]
    rw [Option.bind_some, loopK_normal]
    exact round_loop room h1 h2 b l hb hl K x m (i + 1) _ s _ (by omega) hr' (by rw [List.getElem?_append_left (by simpa using hH), List.getElem?_set_self hH]) (by simp [s0]) (by simp [s1]) (by simp [s5]) (by simp [s6]) (by simp) hK
theorem round_law (room : Int) (b : Option (List Ref)) : fnc Try.prog cfg R 7 [I room, encS b] = some (.bool true) := by
  rw [fnc_eq cfg_ext, body_eq Try.func7 rfl rfl]
  cases hc0 : decide (room < 1)
  case true => simp [argsσ, Vm.results, fixed_ok, hc0]
  cases hc1 : decide (20 < room)
  case true => simp [argsσ, Vm.results, fixed_ok, hc0, hc1]
  cases hc2 : decide ((100 : Int) < (b.getD []).length)
  case true => simp [argsσ, Vm.results, fixed_ok, hc0, hc1, hc2]
  have a1 : 1 ≤ room := by have := of_decide_eq_false hc0; omega
  have a2 : room ≤ 20 := by have := of_decide_eq_false hc1; omega
  have a3 : (b.getD []).length ≤ 100 := by have := of_decide_eq_false hc2; omega
  obtain ⟨n, rfl⟩ : ∃ n : Nat, room = n := ⟨room.toNat, by omega⟩
  have hN := new_ok n n (by unfold inb; simp; omega) (by unfold inb; simp; omega)
  have ho := Ok.new n a1 a2
  have hr : Rnd n (newRing n n) := ⟨ho, rfl, by show (List.replicate (n : Int).toNat rf0).length = n; simp, rfl⟩
  generalize newRing (n : Int) n = r at hN hr
  simp [argsσ, Vm.results, fixed_ok, hc0, hc1, hc2, hN, Option.bind_assoc]
  refine round_loop n (by omega) (by omega) b _ rfl a3 _ _ (b.getD []).length 0 _ r _ (by omega) hr (by simp) (by simp [argsσ]) (by simp [argsσ]) (by simp) (by simp) (by simp) ?_
  intro σ' H' r' hr' h0 s5 s6
  have hM := may_ok hr'.ok
  simp [s5, s6, h0, hM, Vm.results, -getElem?_pos, List.getElem?_cons_zero, List.getElem?_cons_succ]
end Go.Proofs.YtclfpfdpaigdiaaW.Rg
