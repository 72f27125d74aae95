/- Functions behind a program change nothing for it. No conditions. -/
import Derived.Test.YtcbmmiglccmekaaVmL8c
set_option linter.unusedVariables false
set_option linter.unusedSimpArgs false
namespace Go.Proofs.YtcbmmiglccmekaaW.Rg
open Go.Proofs.YtcbmmiglccmekaaW.Vm Go.Proofs.YtcbmmiglccmekaaW.Md
open Go Go.Proofs
theorem cl_funcs : ∀ l : List Fu, cleans (l.map encFunc) = true
  | [] => rfl
  | x :: l => by simp [cl_funcs l]
theorem cl_instrs : ∀ l : List Instr, cleans (l.map encInstr) = true
  | [] => rfl
  | x :: l => by simp [cl_instrs l]
theorem exp_prog {H : List Ob} {id ver z : Nat} {l : List Fu} {n : Nat} (h : H[id]? = some ⟨ver, 4, l.map encFunc, z⟩) (hn : n = l.length) : exp1 H (.own 4 id ver 0 n) = some (encL 4 encFunc (some l)) := by
  subst hn
  rw [exp_own, elsOf_own, h, Option.bind_some, if_pos ⟨rfl, rfl, by simp⟩, List.drop_zero, List.take_of_length_le (by simp), Option.bind_some, ownK_clean _ _ _ (cl_funcs l)]
  rfl
theorem nomark0 : cfg.nomark = false := rfl
theorem ret_prog {l : List Fu} {id ver z n : Nat} (hn : n = l.length) (h0 : id = 0) (av : List D) (hc : cleans av = true) (o : Option (List Int)) : ∃ z', retK cfg [⟨ver, 4, l.map encFunc, z⟩] (.own 4 id ver 0 n :: av) (encL 1 I o) = some (encL 1 I o, [⟨ver, 4, l.map encFunc, z'⟩]) := by
  subst hn; subst h0
  have he : elsOf [⟨ver, 4, l.map encFunc, z⟩] (.own 4 0 ver 0 l.length) = some (l.map encFunc) := by
    rw [elsOf_own]; simp [-List.map_take]; exact List.take_of_length_le (by simp)
  have hm := marks_own he (cl_funcs l)
  cases o with
  | none => exact ⟨z, by simp [retK, encL, flat]⟩
  | some o =>
    refine ⟨max z (0 + l.length), ?_⟩
    unfold retK
    rw [if_neg (by simp [encL, flat]), if_neg (by simp [nomark0]), markss_cons, hm, markss_clean hc]
    simp [frzAll, frzOb]
theorem more_in (lq : List Fu) (i : Nat) (f : Fu) (hf : lq[i]? = some f) (h200 : f.c.length ≤ 200) (hi : i < 2 ^ 62) (a0 a5 : D) (H : List Ob) {X : Type} (K : Ex × St → Option X) (Q : Option X → Prop) : ∀ (rest : List Instr) (k : Nat) (σ : Nat → D), f.c.drop k = rest →
    σ 0 = a0 → σ 1 = encProg (some lq) → σ 5 = a5 → σ 6 = I i → σ 7 = I k →
    (∀ σ', σ' 4 = .bool true → Q (K (.ret, ⟨σ', H, 108⟩))) →
    (∀ σ', (∀ x ∈ rest, x.op ≠ 13) → σ' 0 = a0 → σ' 1 = encProg (some lq) → σ' 5 = a5 → σ' 6 = I i → Q (K (.exit 2, ⟨σ', H, 108⟩))) →
    Q ((W Try.prog cfg (.loop (loopAt Try.f6 8)) ⟨σ, H, 108⟩).bind K) := by
  intro rest
  induction rest with
  | nil =>
    intro k σ hd s0 s1 s5 s6 s7 hr he
    have hil := get_some_lt hf
    have hx := idxD_nat .i64 hil
    have hk : ¬ (k < (f.code.getD []).length) := by have := congrArg List.length hd; simp at this; exact Nat.not_lt.2 (Nat.le_of_sub_eq_zero this)
    rw [Wloop]
    conv => arg 1; arg 1; arg 1; simp [loopAt, loopIn, headId, Try.f6, s1, s6, s7, hx, hf, hk]
    exact he _ (by simp) (by simp [s0]) (by simp [s1]) (by simp [s5]) (by simp [s6])
  | cons x rest ih =>
    intro k σ hd s0 s1 s5 s6 s7 hr he
    have hil := get_some_lt hf
    have hx := idxD_nat .i64 hil
    obtain ⟨hg1, hd1, hk⟩ := drop_get hd
    have hk' : k < (f.code.getD []).length := hk
    have hg' : (f.code.getD [])[k]? = some x := hg1
    have hx2 := idxD_nat .i64 hk'
    have hlt : decide (k < (f.code.getD []).length) = true := dt hk'
    have hw : IntKind.i64.wrap ((k : Int) + 1) = ((k + 1 : Nat) : Int) := wr (by omega) (by omega)
    cases c : decide (x.op = 13)
    · rw [Wloop]
      conv => arg 1; arg 1; arg 1; simp [loopAt, loopIn, headId, Try.f6, s1, s6, s7, hx, hf, hx2, hlt, hg', c, hw]
      rw [Option.bind_some, loopK_normal]
      refine ih (k + 1) _ hd1 (by simp [s0]) (by simp [s1]) (by simp [s5]) (by simp [s6]) (by simp) hr ?_
      intro σ' hn
      refine he σ' fun y hy => ?_
      rcases List.mem_cons.1 hy with rfl | hy
      · exact of_decide_eq_false c
      · exact hn y hy
    · rw [Wloop]
      conv => arg 1; arg 1; arg 1; simp [loopAt, loopIn, headId, Try.f6, s1, s6, s7, hx, hf, hx2, hlt, hg', c]
      exact hr _ (by simp)
theorem more_out (lq : List Fu) (h200 : ∀ f ∈ lq, f.c.length ≤ 200) (h64 : lq.length < 2 ^ 62) (a0 a5 : D) (H : List Ob) {X : Type} (K : Ex × St → Option X) (Q : Option X → Prop) : ∀ (rest : List Fu) (i : Nat) (σ : Nat → D), lq.drop i = rest →
    σ 0 = a0 → σ 1 = encProg (some lq) → σ 5 = a5 → σ 6 = I i →
    (∀ σ', σ' 4 = .bool true → Q (K (.ret, ⟨σ', H, 108⟩))) →
    (∀ σ', (∀ f ∈ rest, ∀ x ∈ f.c, x.op ≠ 13) → σ' 0 = a0 → σ' 1 = encProg (some lq) → σ' 5 = a5 → Q (K (.exit 0, ⟨σ', H, 108⟩))) →
    Q ((W Try.prog cfg (.loop (loopAt Try.f6 5)) ⟨σ, H, 108⟩).bind K) := by
  intro rest
  induction rest with
  | nil =>
    intro i σ hd s0 s1 s5 s6 hr he
    have hi : ¬ (i < lq.length) := by have := congrArg List.length hd; simp at this; omega
    rw [Wloop]
    conv => arg 1; arg 1; arg 1; simp [loopAt, loopIn, headId, Try.f6, s1, s6, hi]
    exact he _ (by simp) (by simp [s0]) (by simp [s1]) (by simp [s5])
  | cons f rest ih =>
    intro i σ hd s0 s1 s5 s6 hr he
    obtain ⟨hg1, hd1, hi⟩ := drop_get hd
    have hlt : decide (i < lq.length) = true := dt hi
    have hw : IntKind.i64.wrap ((i : Int) + 1) = ((i + 1 : Nat) : Int) := wr (by omega) (by omega)
    rw [Wloop]
    conv => arg 1; arg 1; arg 1; simp [loopAt, loopIn, headId, Try.f6, s1, s6, hlt]
    simp only [Option.bind_assoc]
    refine more_in lq i f hg1 (h200 f (List.mem_of_getElem? hg1)) (by omega) a0 a5 H _ Q f.c 0 _ (by simp) (by simp [s0]) (by simp [s1]) (by simp [s5]) (by simp [s6]) (by simp) ?_ ?_
    · intro σ' t4
      simp
      exact hr σ' t4
    · intro σ' hn t0 t1 t5 t6
      simp [t6, hw, loopK_normal]
      refine ih (i + 1) _ hd1 (by simp [t0]) (by simp [t1]) (by simp [t5]) (by simp) hr ?_
      intro σ'' hn2
      refine he σ'' fun g hg => ?_
      rcases List.mem_cons.1 hg with rfl | hg
      · exact hn
      · exact hn2 g hg
theorem more_cmp (lp lq : List Fu) (hlp : lp.length < 2 ^ 62) (hlq : lq.length < 2 ^ 62) (hl : lp.length + lq.length ≤ 16) (hd : ∀ i : Nat, i < lp.length + lq.length → depths (lp ++ lq) i = if i < lp.length then depths lp i else depths lq ((i : Int) - lp.length)) (n : Nat) (hn : n = lp.length + lq.length) {X : Type} (K : Ex × St → Option X) (Q : Option X → Prop) : ∀ (m i z : Nat) (σ : Nat → D), i + m = n →
    σ 0 = encProg (some lp) → σ 1 = encProg (some lq) → σ 5 = .own 4 0 1 0 n → σ 11 = I i →
    (∀ σ' H', Q (K (.exit 4, ⟨σ', H', 108⟩))) →
    Q ((W Try.prog cfg (.loop (loopAt Try.f6 16)) ⟨σ, [⟨1, 4, (lp ++ lq).map encFunc, z⟩], 108⟩).bind K) := by
  intro m
  induction m with
  | zero =>
    intro i z σ hm s0 s1 s5 s11 he
    have hi : ¬ (i < n) := by omega
    rw [Wloop]
    conv => arg 1; arg 1; arg 1; simp [loopAt, loopIn, headId, Try.f6, s5, s11, hi]
    exact he _ _
  | succ m ih =>
    intro i z σ hm s0 s1 s5 s11 he
    have hi : i < n := by omega
    have hm1 : i + 1 + m = n := by omega
    have hlt : decide (i < n) = true := dt hi
    have hw : IntKind.i64.wrap ((i : Int) + 1) = ((i + 1 : Nat) : Int) := wr (by omega) (by omega)
    have hw2 : IntKind.i64.wrap ((i : Int) - (lp.length : Int)) = (i : Int) - (lp.length : Int) := wr (by omega) (by omega)
    have d1 := depths_spec (some (lp ++ lq)) (by simp; omega) i
    have d2 := depths_spec (some lp) (by simp; omega) i
    have d3 := depths_spec (some lq) (by simp; omega) ((i : Int) - lp.length)
    have hi1 := hd i (by omega)
    simp only [Option.getD_some] at d1 d2 d3
    rw [show (if good (lp ++ lq) = true ∧ 0 ≤ (i : Int) ∧ (i : Int) < (lp ++ lq).length then some (depths (lp ++ lq) i) else none) = depO (lp ++ lq) i from rfl] at d1
    rw [show (if good lp = true ∧ 0 ≤ (i : Int) ∧ (i : Int) < lp.length then some (depths lp i) else none) = depO lp i from rfl] at d2
    rw [show (if good lq = true ∧ 0 ≤ (i : Int) - lp.length ∧ (i : Int) - lp.length < lq.length then some (depths lq ((i : Int) - lp.length)) else none) = depO lq ((i : Int) - lp.length) from rfl] at d3
    have hb1 := ints_spec (depO (lp ++ lq) i) (depO lp i) (by rw [depO_get]; have := depths_len (lp ++ lq) i; omega)
    have hb2 := ints_spec (depO (lp ++ lq) i) (depO lq ((i : Int) - lp.length)) (by rw [depO_get]; have := depths_len (lp ++ lq) i; omega)
    rw [depO_get, depO_get] at hb1 hb2
    have hH := exp_prog (H := [⟨1, 4, (lp ++ lq).map encFunc, z⟩]) (id := 0) (ver := 1) (l := lp ++ lq) (n := n) rfl (by rw [List.length_append]; exact hn)
    obtain ⟨z', hR⟩ := ret_prog (l := lp ++ lq) (id := 0) (ver := 1) (z := z) (n := n) (by rw [List.length_append]; exact hn) rfl [I i] (by simp) (depO (lp ++ lq) i)
    rw [Wloop]
    by_cases c : i < lp.length
    · have c1 : decide (i < lp.length) = true := dt c
      rw [if_pos c] at hi1
      rw [dt hi1] at hb1
      conv => arg 1; arg 1; arg 1; simp [loopAt, loopIn, headId, Try.f6, s0, s1, s5, s11, hlt, hw, hw2, d1, d2, d3, hb1, c1, hH, hR, -List.map_append]
      rw [Option.bind_some, loopK_normal]
      exact ih (i + 1) z' _ hm1 (by simp [s0]) (by simp [s1]) (by simp [s5]) (by simp) he
    · have c1 : decide (i < lp.length) = false := df c
      rw [if_neg c] at hi1
      rw [dt hi1] at hb2
      conv => arg 1; arg 1; arg 1; simp [loopAt, loopIn, headId, Try.f6, s0, s1, s5, s11, hlt, hw, hw2, d1, d2, d3, hb2, c1, hH, hR, -List.map_append]
      rw [Option.bind_some, loopK_normal]
      exact ih (i + 1) z' _ hm1 (by simp [s0]) (by simp [s1]) (by simp [s5]) (by simp) he
theorem more8_law (p q : Option (List Fu)) (hb : Bnd (p.getD [])) (hbq : Bnd (q.getD [])) : fnc Try.prog cfg R 6 [encProg p, encProg q] = some (.bool true) := by
  rw [fnc_at rfl, body_eq Try.func6 rfl rfl]
  have hS := small_spec p 150
  have hSq := small_spec q 150
  have hG := rgood_spec p hb
  have hGq := rgood_spec q hbq
  have hlen := hb.len
  have hlenq := hbq.len
  cases hs : small (p.getD []) 150 with
  | false => rw [hs] at hS; simp [argsσ, Vm.results, hS, fixed8]
  | true =>
  cases hsq : small (q.getD []) 150 with
  | false => rw [hs] at hS; rw [hsq] at hSq; simp [argsσ, Vm.results, hS, hSq, fixed8]
  | true =>
  cases hg : good (p.getD []) with
  | false => rw [hs] at hS; rw [hsq] at hSq; rw [hg] at hG; simp [argsσ, Vm.results, hS, hSq, hG, fixed8]
  | true =>
  cases hgq : good (q.getD []) with
  | false => rw [hs] at hS; rw [hsq] at hSq; rw [hg] at hG; rw [hgq] at hGq; simp [argsσ, Vm.results, hS, hSq, hG, hGq, fixed8]
  | true =>
  rw [hs] at hS; rw [hsq] at hSq; rw [hg] at hG; rw [hgq] at hGq
  have hm := (good_iff.1 hg).1
  have hmq := (good_iff.1 hgq).1
  have hp16 : 1 ≤ (p.getD []).length ∧ (p.getD []).length ≤ 16 := by unfold mayP at hm; simp at hm; omega
  have hq16 : 1 ≤ (q.getD []).length ∧ (q.getD []).length ≤ 16 := by unfold mayP at hmq; simp at hmq; omega
  have hw : IntKind.i64.wrap (((p.getD []).length : Int) + ((q.getD []).length : Int)) = ((p.getD []).length : Int) + ((q.getD []).length : Int) := wr (by omega) (by omega)
  cases k : decide (16 < ((p.getD []).length : Int) + ((q.getD []).length : Int))
  case true => simp [argsσ, Vm.results, hS, hSq, hG, hGq, hw, k, fixed8]
  obtain ⟨lp, rfl⟩ : ∃ lp, p = some lp := by cases p with | none => simp at hp16 | some lp => exact ⟨lp, rfl⟩
  obtain ⟨lq, rfl⟩ : ∃ lq, q = some lq := by cases q with | none => simp at hq16 | some lq => exact ⟨lq, rfl⟩
  simp only [Option.getD_some] at *
  have hsum : lp.length + lq.length ≤ 16 := by have := of_decide_eq_false k; omega
  have lne : (lp.map encFunc).length ≠ 0 := by rw [List.length_map]; omega
  have lne2 : (lq.map encFunc).length ≠ 0 := by rw [List.length_map]; omega
  have ap1 : apK 48 4 [] (D.sl 4 [] true) [] (lp.map encFunc) = some (.own 4 0 0 0 lp.length, [⟨0, 4, lp.map encFunc, 0⟩]) := by
    rw [apK_ok (by simp only [List.length_nil, List.length_map]; omega), apN_sl' lne]; simp [newOb]
  have el1 : elsZ [⟨0, 4, lp.map encFunc, 0⟩] 4 (.own 4 0 0 0 lp.length) = some (lp.map encFunc) := by
    simp [elsZ, elsOf_own, -List.map_take]; exact List.take_of_length_le (by simp)
  have ap2 : apK 48 4 [⟨0, 4, lp.map encFunc, 0⟩] (.own 4 0 0 0 lp.length) (lp.map encFunc) (lq.map encFunc) = some (.own 4 0 1 0 (lp.length + lq.length), [⟨1, 4, (lp ++ lq).map encFunc, 0⟩]) := by
    rw [apK_ok (by simp only [List.length_map]; omega), apN_own' lne2]; simp
  have ex := exp_prog (H := [⟨1, 4, (lp ++ lq).map encFunc, 0⟩]) (id := 0) (ver := 1) (l := lp ++ lq) (n := lp.length + lq.length) rfl (by simp)
  have hC := check_spec (some (lp ++ lq)) (by simp; omega)
  simp [argsσ, hS, hSq, hG, hGq, hw, k, fixed8, Option.bind_assoc, ap1, el1, ap2, -List.map_append]
  refine more_out lq (fun f hf => (fmay_len (mayP_f hmq hf)).2) (by omega) (encProg (some lp)) (.own 4 0 1 0 (lp.length + lq.length)) _ _ (fun o => o = some _) lq 0 _ (by simp) (by simp [argsσ]) (by simp [argsσ]) (by simp) (by simp) ?_ ?_
  · intro σ' t4
    simp [Vm.results, t4]
  · intro σ' hns t0 t1 t5
    obtain ⟨g1, g2, g3⟩ := more_good hg hgq hsum hns
    have hC0 := good_check.1 g1
    simp only [Option.getD_some, hC0] at hC
    simp [t0, t1, t5, hC, ex, -List.map_append, Option.bind_assoc, retK_flat, flat, flats]
    refine more_cmp lp lq (by omega) (by omega) hsum ?_ (lp.length + lq.length) rfl _ (fun o => o = some _) (lp.length + lq.length) 0 0 _ (by omega) (by simp [t0]) (by simp [t1]) (by simp [t5]) (by simp) ?_
    · intro i hi
      by_cases c : i < lp.length
      · rw [if_pos c]
        obtain ⟨f, hf⟩ : ∃ f, lp[i]? = some f := ⟨_, List.getElem?_eq_getElem c⟩
        rw [depths_good g1 (i := i) (f := f) (by rw [List.getElem?_append_left c]; exact hf), depths_good hg hf, g2 i f hf]
      · rw [if_neg c]
        obtain ⟨f, hf⟩ : ∃ f, lq[i - lp.length]? = some f := ⟨_, List.getElem?_eq_getElem (by omega)⟩
        rw [depths_good g1 (i := i) (f := f) (by rw [List.getElem?_append_right (by omega)]; exact hf), show (i : Int) - lp.length = ((i - lp.length : Nat) : Int) by omega, depths_good hgq hf, g3 _ f hf]
    · intro σ'' H''
      simp [Vm.results]
end Go.Proofs.YtcbmmiglccmekaaW.Rg
