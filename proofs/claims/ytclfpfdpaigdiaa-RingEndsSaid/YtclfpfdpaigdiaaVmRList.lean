import Derived.Test.YtclfpfdpaigdiaaVmRPop
import Derived.Test.YtclfpfdpaigdiaaVmRParts
import Derived.Test.YtclfpfdpaigdiaaVmRHalf
set_option linter.unusedVariables false
set_option linter.unusedSimpArgs false
namespace Go.Proofs.YtclfpfdpaigdiaaW.Rg
open Go.Proofs.YtclfpfdpaigdiaaW.Vm
open Go Go.Proofs
theorem semPure_bind {P : Program} {α β : Type} (s : Sem α) (k : α → Sem β) : semPure P (s.bind k) = (semPure P s).bind fun a => semPure P (k a) := by
  induction s with
  | pure a => rfl
  | program f ih => exact ih P
  | _ => rfl
theorem semPure_under {P : Program} {t : Nat} {d : TypeDesc} (hu : P.underlying t = some d) : semPure P (underlying t) = some d := by
  unfold underlying
  simp [semPure, bind, Sem.bind, pure, program, hu]
theorem neq_bool {P : Program} {t : Nat} (hu : P.underlying t = some .bool) (x y a b) : binD P .neq t x y (.bool a) (.bool b) = some (.bool (a != b)) := by
  have e : semPure P (Op.equal t (.bool a) (.bool b)) = some (a == b) := by
    unfold Op.equal Op.maxDepth
    unfold Op.equalIn
    show semPure P (Sem.bind _ _) = _
    rw [semPure_bind, semPure_under hu]
    rfl
  have e2 : semPure P (binOp .neq t (.bool a) (.bool b)) = some (.bool (a != b)) := by
    unfold binOp
    show semPure P (Sem.bind _ _) = _
    rw [semPure_bind, e]
    rfl
  unfold binD
  simp only [scal]
  show (match semPure P (Sem.bind _ _) with | some r => ofVal1 r | none => none) = _
  rw [semPure_bind]
  simp [eqGuard, semPure, pure, e2, ofVal1]
theorem items_len {r : Ring} (h : Ok r) : (items r).length = r.many.toNat := by simp [items]
theorem items_get (r : Ring) {j : Nat} (hj : j < r.many.toNat) : (items r)[j]? = some (item r j) := by simp [items, List.getElem?_range hj]
theorem items_popped {r : Ring} (h : Ok r) : items (popped r) = (items r).take (r.many.toNat - 1) := by
  show (List.range (r.many - 1).toNat).map (item r) = ((List.range r.many.toNat).map (item r)).take (r.many.toNat - 1)
  rw [← List.map_take, List.take_range, show (r.many - 1).toNat = min (r.many.toNat - 1) r.many.toNat by omega]
theorem items_st_drop {r : Ring} (h : Ok r) (n : Nat) (hn : (n : Int) ≤ r.many) : items (st r n) = (items r).drop n ∧ firsts r n = (items r).take n := by
  have e := split_items r h n hn
  have hf : (firsts r n).length = n := by simp [firsts]
  constructor
  · rw [← e, List.drop_append_of_le_length (by omega), List.drop_of_length_le (by omega), List.nil_append]
  · rw [← e, List.take_append_of_le_length (by omega), List.take_of_length_le (by omega)]
theorem refs_same (l : List Ref) (hl : l.length < 2 ^ 62) : fnc Try.prog cfg R 22 [.sl 2 (l.map encRef) false, .sl 2 (l.map encRef) false] = some (.bool true) := by
  have := refs_spec (some l) (some l) hl
  simpa using this
theorem app_encS (A : List Ref) (b : Option (List Ref)) (ver : Nat) (hb : (A.length + (b.getD []).length) * 16 ≤ 2 ^ 47) : ∃ ver', ∀ (h : List Ob) (id ty : Nat) (C : List Ref), A ++ b.getD [] = C → h[id]? = some ⟨ver, 2, A.map encRef, 0⟩ →
    builtinD Try.prog h .append #[22, 22] ty [.own 2 id ver 0 A.length, encS b] = some (.own 2 id ver' 0 C.length, h.set id ⟨ver', 2, C.map encRef, 0⟩) := by
  cases b with
  | some l => exact app_refs A l ver hb
  | none =>
    refine ⟨ver, fun h id ty C hC hh => ?_⟩
    subst hC
    simp only [builtinD, appendD, appNew]
    simp [elsZ_own, elsOf_own, hh, take_refs, zeroOk33]
    have hlt : id < h.length := by
      rcases Nat.lt_or_ge id h.length with h' | h'
      · exact h'
      · rw [List.getElem?_eq_none h'] at hh; cases hh
    refine ⟨by simp at hb; simpa [big] using hb, ?_⟩
    apply List.ext_getElem?
    intro j
    by_cases e : id = j
    · subst e; rw [List.getElem?_set_self hlt, hh]
    · rw [List.getElem?_set_ne e]
/-- what the list's law does not look at: the ring that was pushed into -/
theorem list_law (r : Ring) (b : Option (List Ref)) (hl : r.l.length ≤ maxLen) (hb : (b.getD []).length ≤ maxLen) : fnc Try.prog cfg R 4 [encRing r, encS b] = some (.bool true) := by
  have hml : maxLen = 2 ^ 63 - 1 := rfl
  rw [fnc_eq cfg_ext, body_eq Try.func4 rfl rfl]
  have hsm := small_spec r
  have hmy := rmay_spec r
  cases hs : decide (r.l.length ≤ 60)
  · rw [hs] at hsm
    simp [argsσ, Vm.results, fixed_ok, hsm]
  rw [hs] at hsm
  cases h20 : decide ((20 : Int) < (b.getD []).length)
  case true => simp [argsσ, Vm.results, fixed_ok, hsm, h20]
  cases hm : may r
  · rw [hm] at hmy
    simp [argsσ, Vm.results, fixed_ok, hsm, h20, hmy]
  rw [hm] at hmy
  have h := (may_iff r).1 hm
  have hs : r.l.length ≤ 60 := by simpa using hs
  have h20' : (b.getD []).length ≤ 20 := by have := of_decide_eq_false h20; omega
  have := h.h2; have := h.h3; have := h.h6; have := h.h7; have := h.h1
  have hI := Items_ok h
  have hil := items_len h
  have hS := same_self r (by omega)
  obtain ⟨v1, ha1⟩ := app_refs [] (items r) 0 (by rw [hil]; simp; omega)
  obtain ⟨v2, ha2⟩ := app_encS (items r) b v1 (by rw [hil]; omega)
  obtain ⟨both, hboth⟩ : ∃ l, items r ++ b.getD [] = l := ⟨_, rfl⟩
  have hbl : both.length = r.many.toNat + (b.getD []).length := by rw [← hboth, List.length_append, hil]
  have ha1 := fun h id ty => ha1 h id ty (items r) rfl
  have ha2 := fun h id ty => ha2 h id ty both hboth
  simp only [List.map_nil, List.length_nil] at ha1
  have hm0 : (((items r).length : Int)) = r.many := by rw [hil]; omega
  have e0 : decide (((items r).length : Int) = r.many) = true := decide_eq_true hm0
  have hbs := fun dst ty pos af g st ps => op_bslice (P := Try.prog) (cfg := cfg) (run := R) dst ty pos af g st (n := 0) ps el22 sz33 ag33 ze33 (by simp) (by decide) (by decide)
  have hH := half_ok h
  have hRb := refs_same both (by omega)
  have hnb := neq_bool (P := Try.prog) un4
  simp only [encS_some] at hI hH
  have q4 : decide ((0 : Int) = 0) = true := by decide
  have hpush : ∃ (a : Ring) (e : Int), fnc Try.prog cfg R 11 [encRing r, encS b] = some (.tup [encRing a, I e]) ∧
      ((e = 0 ∧ decide ((both.length : Int) ≤ r.most) = true ∧ fnc Try.prog cfg R 25 [encRing a] = some (.bool true) ∧ fnc Try.prog cfg R 23 [encRing a] = some (.sl 2 (both.map encRef) false)) ∨
       (e = 110 ∧ decide ((both.length : Int) ≤ r.most) = false ∧ a = r)) := by
    by_cases hA : r.many + (b.getD []).length ≤ r.most
    · obtain ⟨okA, _, _⟩ := pushes_ok (b.getD []) r h hA
      have h23 := Items_ok (ok_buf okA)
      rw [items_buf, items_pushes _ _ h hA, hboth] at h23
      exact ⟨_, 0, push_ok h b hA, .inl ⟨rfl, decide_eq_true (by omega), may_ok (ok_buf okA), h23⟩⟩
    · exact ⟨r, 110, push_full h b (by omega) (by omega), .inr ⟨rfl, decide_eq_false (by omega), rfl⟩⟩
  obtain ⟨a, e, P1, hcase⟩ := hpush
  by_cases h0 : r.many = 0
  · have e1 := pop_no h h0
    have e2 := steal_no h h0
    have e3 : decide (r.many = 0) = true := decide_eq_true h0
    have hu : upper r = 0 := by simp [upper, h0]
    rw [hu, show firsts r 0 = [] from rfl] at hH
    rcases hcase with ⟨rfl, d1, d2, d3⟩ | ⟨rfl, d1, rfl⟩
    · simp [argsσ, Vm.results, fixed_ok, hsm, h20, hmy, hI, P1, hbs, fillD, ha1, ha2, hm0, d1, d2, d3, hnb, hS, e1, e2, e3, hH, exp_own, elsOf_own, take_refs, hRb, retK_flat]
    · simp [argsσ, Vm.results, fixed_ok, hsm, h20, hmy, hI, P1, hbs, fillD, ha1, ha2, hm0, d1, hnb, hS, e1, e2, e3, hH]
  · obtain ⟨M, hM⟩ : ∃ M : Nat, r.many = M + 1 := ⟨r.many.toNat - 1, by omega⟩
    have e1 := pop_ok h h0
    have e2 := steal_ok h h0
    have e3 : decide (r.many = 0) = false := decide_eq_false h0
    have hu : upper r = (r.many.toNat + 1) / 2 := rfl
    have hN : (items r).length = M + 1 := by rw [hil]; omega
    have hwm : IntKind.i64.wrap (r.many - 1) = (M : Int) := by rw [IntWalk.i64_in _ (by omega)]; omega
    have hwp : IntKind.i64.wrap (r.many + 1) = r.many + 1 := IntWalk.i64_in _ (by omega)
    have hUle : upper r ≤ (items r).length := by rw [hu, hN]; omega
    obtain ⟨U, hU⟩ : ∃ U, upper r = U := ⟨_, rfl⟩
    have hq : (r.many + 1).tdiv 2 = (U : Int) := by rw [Int.tdiv_eq_ediv_of_nonneg (by omega)]; omega
    have hwu : IntKind.i64.wrap (U : Int) = U := IntWalk.i64_in _ (by omega)
    have gM := items_get r (j := M) (by omega)
    have g0 := items_get r (j := 0) (by omega)
    rw [show r.many.toNat - 1 = M by omega] at e1
    have okp := h.popped (by omega)
    have oks := h.stolen (by omega)
    obtain ⟨oku, _⟩ := st_ok h (upper r) (by omega)
    have ip := Items_ok okp
    have is := Items_ok oks
    have iu := Items_ok oku
    have mp := may_ok okp
    have ms := may_ok oks
    have mu := may_ok oku
    obtain ⟨du, fu⟩ := items_st_drop h (upper r) (by omega)
    obtain ⟨ds, _⟩ := items_st_drop h 1 (by omega)
    rw [show items (st r 1) = items (stolen r) from rfl] at ds
    rw [items_popped h, show r.many.toNat - 1 = M by omega] at ip
    rw [ds] at is
    rw [du] at iu
    rw [fu] at hH
    rw [hU] at hUle hH iu mu
    simp only [encS_some] at ip is iu
    have x1 := fun hp => sl_hi (some (items r)) M (by show M ≤ (items r).length; omega) hp
    have x2 := fun hp => sl_lo (some (items r)) 1 (by show 1 ≤ (items r).length; omega) hp
    have x3 := fun hp => sl_hi (some (items r)) U hUle hp
    have x4 := fun hp => sl_lo (some (items r)) U hUle hp
    rw [show ((1 : Nat) : Int) = 1 from rfl] at x2
    simp only [encS_some, Option.map_some] at x1 x2 x3 x4
    have y1 := ix_sl (P := Try.prog) un22 sz33 ((items r).map encRef) false .i64 M (by rw [List.length_map]; omega)
    have y2 := ix_sl (P := Try.prog) un22 sz33 ((items r).map encRef) false .i64 0 (by rw [List.length_map]; omega)
    rw [show (M : Int).toNat = M by simp] at y1
    rw [show (0 : Int).toNat = 0 from rfl] at y2
    have z1 := refs_same ((items r).take M) (by rw [List.length_take]; omega)
    have z2 := refs_same ((items r).drop 1) (by rw [List.length_drop]; omega)
    have z3 := refs_same ((items r).take U) (by rw [List.length_take]; omega)
    have z4 := refs_same ((items r).drop U) (by rw [List.length_drop]; omega)
    generalize (items r).take M = A1 at *
    generalize (items r).drop 1 = A2 at *
    generalize (items r).take U = A3 at *
    generalize (items r).drop U = A4 at *
    have hd14 := dr4_14
    simp [opsAt, opsIn, Try.f4] at hd14
    have hdw14 := Wdraw0 hd14
    have hd16 := dr4_16
    simp [opsAt, opsIn, Try.f4] at hd16
    have hdw16 := Wdraw0 hd16
    clear hd14 hd16
    rcases hcase with ⟨rfl, d1, d2, d3⟩ | ⟨rfl, d1, rfl⟩
    · simp [argsσ, Vm.results, fixed_ok, hsm, h20, hmy, hI, P1, hbs, fillD, ha1, ha2, hm0, d1, d2, d3, hnb, hS, e1, e2, e3, hH, exp_own, elsOf_own, take_refs, hRb, retK_flat, hdw14, hdw16, hwm, hwp, hq, hwu, bin_quo, gM, g0, mp, ms, mu, ip, is, iu, x1, x2, x3, x4, y1, y2, z1, z2, z3, z4, neq_ref]
    · simp [argsσ, Vm.results, fixed_ok, hsm, h20, hmy, hI, P1, hbs, fillD, ha1, ha2, hm0, d1, hnb, hS, e1, e2, e3, hH, retK_flat, hdw14, hdw16, hwm, hwp, hq, hwu, bin_quo, gM, g0, mp, ms, mu, ip, is, iu, x1, x2, x3, x4, y1, y2, z1, z2, z3, z4, neq_ref]
end Go.Proofs.YtclfpfdpaigdiaaW.Rg
