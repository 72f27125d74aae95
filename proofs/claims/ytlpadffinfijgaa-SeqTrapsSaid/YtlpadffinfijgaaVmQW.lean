/- One task behind the other: a program in front of another one. No conditions. -/
import Derived.Test.YtlpadffinfijgaaVmQL1
import Derived.KernelRfl
set_option linter.unusedVariables false
set_option linter.unusedSimpArgs false
set_option maxRecDepth 10000
namespace Go.Proofs.YtlpadffinfijgaaW.Rg
open Go.Proofs.YtlpadffinfijgaaW.Vm Go.Proofs.YtlpadffinfijgaaW.Md
open Go Go.Proofs
section
variable {p : List Fu} {f f' : Fr}
theorem runS_go (h : doF p f = (f', acN 1)) (g m : Nat) : runS p (g + 1) f (m + 1) = runS p g f' m := by
  rw [runS, h, if_neg (by omega), if_neg (show ¬ ((f', acN 1) : Fr × Ac).2.kind = 2 from (by decide : ¬ ((1 : Int) = 2))), if_pos (show ((f', acN 1) : Fr × Ac).2.kind = 1 from rfl)]; rfl
theorem runS_end (h : doF p f = (f', acN 4)) (g m : Nat) : runS p (g + 1) f (m + 1) = some ((finF f').1, m) := by
  rw [runS, h, if_neg (by omega), if_neg (show ¬ ((f', acN 4) : Fr × Ac).2.kind = 2 from (by decide : ¬ ((4 : Int) = 2))), if_neg (show ¬ ((f', acN 4) : Fr × Ac).2.kind = 1 from (by decide : ¬ ((4 : Int) = 1)))]; rfl
theorem runS_sp {fn sl sd : Int} {ag : List Vl} (h : doF p f = (f', ⟨2, fn, sl, sd, ag⟩)) {ch : Fr} (hc : newF p fn ag sd = some ch) (g m : Nat) :
    runS p (g + 1) f (m + 1) = match runS p g ch m with | none => none | some (o, k) => runS p g (giveF f' sl o).1 k := by
  rw [runS, h, if_neg (by omega), if_pos (show ((f', ⟨2, fn, sl, sd, ag⟩) : Fr × Ac).2.kind = 2 from rfl)]
  dsimp only
  rw [hc, Option.getD_some]
  rfl
theorem do_at {x : Instr} (h0 : f.state = 0) (h1 : 0 ≤ f.fn ∧ f.fn < p.length) (hi : instrAt p f = some x) (hr : roomX p f x = true) : doF p f = runX p f x := by
  unfold doF
  rw [if_neg (by rintro (h | h | h); exact h h0; omega; omega), hi]
  simp only
  rw [if_pos hr]
theorem instr_at {x : Instr} (h0 : 0 ≤ f.pc) (hg : (codeOf p f.fn)[f.pc.toNat]? = some x) (ht : thereX p f x = true) : instrAt p f = some x := by
  unfold instrAt
  rw [if_pos h0, hg]
  simp only
  rw [if_pos ht]
end
theorem run13 (p : List Fu) (f : Fr) (a b : Int) : runX p f ⟨13, a, b⟩ = spawnF p f ⟨13, a, b⟩ := by
  unfold runX
  rw [if_neg (by show ¬ ((13 : Int) = 16); decide), if_neg (by show ¬ ((13 : Int) = 15); decide), if_pos rfl]
theorem run14 (p : List Fu) (f : Fr) (a b : Int) : runX p f ⟨14, a, b⟩ = joinF f ⟨14, a, b⟩ := by
  unfold runX
  rw [if_neg (by show ¬ ((14 : Int) = 16); decide), if_neg (by show ¬ ((14 : Int) = 15); decide), if_neg (by show ¬ ((14 : Int) = 13); decide), if_pos rfl]
/-! functions behind a first one -/
def shF (x : Fu) : Fu := ⟨x.arity, x.locals, x.slots, some (x.c.map (shI 1))⟩
theorem shF_c (x : Fu) : (shF x).c = x.c.map (shI 1) := rfl
section
variable {p : List Fu} {m : Fu}
theorem imay_sh (hg : good p = true) (hl : p.length ≤ 15) {x : Fu} (hx : x ∈ p) {z : Instr} (hz : z ∈ x.c) : imay (shI 1 z) = true := by
  have hi := imay_all hg hx hz
  by_cases h : z.op = 13
  · have hf := (fieldE_spawn (((good_iff.1 hg).2 x hx).2.1 z hz) h).2
    have h2 := imay_iff.1 hi
    have ha := imay_a hi
    have e : shI 1 z = ⟨z.op, z.a + 1, z.b⟩ := by unfold shI; rw [if_pos h]
    rw [e]
    refine imay_iff.2 ⟨h2.1, h2.2.1, ?_, ?_, h2.2.2.2.2.1, h2.2.2.2.2.2⟩
    · have := h2.2.2.1; show leastA z.op ≤ z.a + 1; omega
    · show z.a + 1 ≤ mostA z.op
      rw [h]; show z.a + 1 ≤ 15; omega
  · rw [shI_a _ _ h]; exact hi
theorem sim_sh (hg : good p = true) (hl : p.length ≤ 15) : SimP 1 p (m :: p.map shF) := by
  refine ⟨by simp, fun i x hx => ⟨shF x, ?_, rfl, rfl, rfl, rfl⟩, fun x hx z hz => imay_sh hg hl hx hz⟩
  rw [List.getElem?_cons_succ, List.getElem?_map, hx]; rfl
theorem shapes_off {p q : List Fu} {c : List Instr} (h : ∀ x ∈ c, offP p x = offP q x) : shapes p c = shapes q c := by
  apply List.ext_getElem?
  intro i
  rw [shapes_get, shapes_get]
  cases hx : c[i]? with
  | none => rfl
  | some x => simp [h x (List.mem_of_getElem? hx)]
theorem shapes_sh (hg : good p = true) (hl : p.length ≤ 15) {x : Fu} (hx : x ∈ p) : shapes (m :: p.map shF) (shF x).c = shapes p x.c := by
  have S := sim_sh (m := m) hg hl
  apply List.ext_getElem?
  intro i
  rw [shapes_get, shapes_get, shF_c, List.getElem?_map]
  cases hz : x.c[i]? with
  | none => rfl
  | some z =>
    have ha := imay_a (imay_all hg hx (List.mem_of_getElem? hz))
    have e := sim_off S ha
    simp only [Option.map_some, Option.some.injEq, Sh.mk.injEq]
    refine ⟨e, by rw [shI_op], ?_⟩
    unfold nextP
    rw [shI_op]
    by_cases h : z.op = 13
    · rw [if_neg (by omega), if_neg (by omega), if_neg (by omega), if_neg (by omega), if_neg (by omega), if_neg (by omega)]
    · rw [shI_a _ _ h]
theorem good_sh (hg : good p = true) (hl : p.length ≤ 15) (h1 : fmay m = true) (h2 : m.arity ≤ m.locals) (h3 : ∀ x ∈ m.c, fieldE (p.length + 1) m x = 0) (h4 : ∃ d, reach (shapes (m :: p.map shF) m.c) = .inr d) : good (m :: p.map shF) = true := by
  obtain ⟨g1, g2⟩ := good_iff.1 hg
  refine good_iff.2 ⟨?_, fun f hf => ?_⟩
  · have gl : 1 ≤ p.length := by unfold mayP at g1; simp only [Bool.and_eq_true, decide_eq_true_eq] at g1; omega
    unfold mayP
    simp only [Bool.and_eq_true, decide_eq_true_eq, List.all_cons, List.length_cons, List.length_map, h1, true_and, List.all_eq_true, List.mem_map, forall_exists_index, and_imp]
    refine ⟨⟨fun y x hx e => ?_, by omega⟩, by omega⟩
    subst e
    have hm := mayP_f g1 hx
    have hh := fmay_head hm
    have hlc := fmay_len hm
    unfold fmay headOk
    simp only [Bool.and_eq_true, decide_eq_true_eq, shF_c, List.length_map, List.all_eq_true, List.mem_map, forall_exists_index, and_imp]
    refine ⟨⟨⟨?_, hlc.1⟩, hlc.2⟩, fun y z hz e => ?_⟩
    · show ((((0 ≤ x.arity ∧ x.arity ≤ 16) ∧ 0 ≤ x.locals) ∧ x.locals ≤ 16) ∧ 0 ≤ x.slots) ∧ x.slots ≤ 8
      omega
    · subst e; exact imay_sh hg hl hx hz
  · rcases List.mem_cons.1 hf with rfl | hf
    · exact ⟨h2, by simpa using h3, h4⟩
    · obtain ⟨x, hx, rfl⟩ := List.mem_map.1 hf
      obtain ⟨a, b, c⟩ := g2 x hx
      refine ⟨a, fun z hz => ?_, by rw [shapes_sh hg hl hx]; exact c⟩
      rw [shF_c] at hz
      obtain ⟨w, hw, rfl⟩ := List.mem_map.1 hz
      have hb := b w hw
      have e : fieldE ((m :: p.map shF).length) (shF x) (shI 1 w) = fieldE ((m :: p.map shF).length) x (shI 1 w) := by
        unfold fieldE
        have : ((shF x).c.length : Int) = x.c.length := by rw [shF_c, List.length_map]
        rw [this]; rfl
      rw [e]
      by_cases h : w.op = 13
      · have hf := fieldE_spawn hb h
        unfold fieldE
        rw [shI_op, shI_b]
        have : (shI 1 w).a = w.a + 1 := by unfold shI; rw [if_pos h]
        rw [this, if_neg (by omega), if_neg (by omega), if_pos h, if_neg (by omega), if_neg (by simp; omega)]
      · rw [shI_a _ _ h]
        exact fieldE_more (by simp) hb
end
/-! who hands its arguments on -/
def mainW (n : Nat) : Fu := ⟨n, n, 1, some ((List.range n).map (fun i : Nat => (⟨1, i, 0⟩ : Instr)) ++ [⟨13, 1, 0⟩, ⟨14, 0, 0⟩, ⟨15, 0, 0⟩])⟩
theorem mw_c (n : Nat) : (mainW n).c = (List.range n).map (fun i : Nat => (⟨1, i, 0⟩ : Instr)) ++ [⟨13, 1, 0⟩, ⟨14, 0, 0⟩, ⟨15, 0, 0⟩] := rfl
theorem mw_get {n i : Nat} (h : i < n) : (mainW n).c[i]? = some ⟨1, i, 0⟩ := by
  rw [mw_c, List.getElem?_append_left (by simp; omega), List.getElem?_map, List.getElem?_range h]; rfl
theorem mw_end {n k : Nat} : (mainW n).c[n + k]? = ([⟨13, 1, 0⟩, ⟨14, 0, 0⟩, ⟨15, 0, 0⟩] : List Instr)[k]? := by
  rw [mw_c, List.getElem?_append_right (by simp)]
  simp
def isR : (Int × Int) ⊕ List Int → Bool
  | .inl _ => false
  | .inr _ => true
theorem isR_ex {r : (Int × Int) ⊕ List Int} (h : isR r = true) : ∃ d, r = .inr d := by
  cases r with
  | inl a => cases h
  | inr d => exact ⟨d, rfl⟩
theorem mw_reach : ∀ n : Fin 9, isR (reach (shapes [mainW n.val, ⟨n.val, 0, 0, none⟩] (mainW n.val).c)) = true := by decide +kernel
theorem mw_may : ∀ n : Fin 9, fmay (mainW n.val) = true := by decide +kernel
theorem mw_field : ∀ n : Fin 9, ((mainW n.val).c.all fun x => fieldE 2 (mainW n.val) x == 0) = true := by decide +kernel
theorem good_mw {p : List Fu} (hg : good p = true) (hl : p.length ≤ 15) {n : Nat} (hn : n ≤ 8) {x0 : Fu} (h0 : p[0]? = some x0) (ha : x0.arity = n) : good (mainW n :: p.map shF) = true := by
  have hp0 : 0 < p.length := (List.getElem?_eq_some_iff.1 h0).1
  refine good_sh hg hl (mw_may ⟨n, by omega⟩) (Int.le_refl _) (fun x hx => ?_) ?_
  · have := List.all_eq_true.1 (mw_field ⟨n, by omega⟩) x hx
    exact fieldE_more (np := 2) (by omega) (by simpa using this)
  · have e : shapes (mainW n :: p.map shF) (mainW n).c = shapes [mainW n, ⟨n, 0, 0, none⟩] (mainW n).c := by
      refine shapes_off fun x hx => ?_
      rw [mw_c] at hx
      unfold offP
      rcases List.mem_append.1 hx with hx | hx
      · obtain ⟨i, _, rfl⟩ := List.mem_map.1 hx
        rfl
      · simp only [List.mem_cons, List.not_mem_nil, or_false] at hx
        rcases hx with rfl | rfl | rfl
        · rw [if_pos rfl, if_pos rfl]
          show (((mainW n :: p.map shF)[1]?).map (fun f : Fu => f.arity)).getD 0 = ((n : Nat) : Int)
          rw [List.getElem?_cons_succ, List.getElem?_map, h0]
          exact ha
        · rfl
        · rfl
    rw [e]
    exact isR_ex (mw_reach ⟨n, by omega⟩)
/-- the frame of the first function -/
def mfW (args st : List Vl) (s : Int) (pc : Nat) (sl : Slt) (sp : Int) : Fr := ⟨0, pc, st, args, [sl], s, sp, 0, 0, 0, o0, noK, 0⟩
section
variable {p : List Fu} {args : List Vl} {s : Int}
theorem codeOf_mw (n : Nat) : codeOf (mainW n :: p.map shF) 0 = (mainW n).c := rfl
theorem mw_load (hn : args.length ≤ 8) (i : Nat) (hi : i < args.length) : doF (mainW args.length :: p.map shF) (mfW args (args.take i) s i s0 0) = (mfW args (args.take (i + 1)) s (i + 1) s0 0, acN 1) := by
  have hx : instrAt (mainW args.length :: p.map shF) (mfW args (args.take i) s i s0 0) = some ⟨1, i, 0⟩ := by
    refine instr_at (by show (0 : Int) ≤ (i : Int); omega) ?_ ?_
    · show (mainW args.length).c[((i : Nat) : Int).toNat]? = _
      rw [Int.toNat_natCast]; exact mw_get hi
    · have e1 : imay ⟨1, i, 0⟩ = true := imay_iff.2 ⟨(by show (0 : Int) ≤ 1; omega), (by show (1 : Int) < 17; omega), (by show (0 : Int) ≤ (i : Int); omega), (by show (i : Int) ≤ 15; omega), (by show (0 : Int) ≤ 0; omega), (by show (0 : Int) ≤ 0; omega)⟩
      unfold thereX
      rw [e1, if_pos (.inl rfl)]
      exact decide_eq_true (by show (i : Int) < (args.length : Int); omega)
  rw [do_at rfl ⟨Int.le_refl _, by simp [mfW]⟩ hx ?_]
  · show (_, acN 1) = _
    have e : (args[i]?).getD v0 = args[i] := by rw [List.getElem?_eq_getElem hi]; rfl
    have e2 : args.take i ++ [args[i]] = args.take (i + 1) := by rw [List.take_add_one, List.getElem?_eq_getElem hi]; rfl
    show (({ mfW args (args.take i ++ [(args[((i : Nat) : Int).toNat]?).getD v0]) s i s0 0 with pc := ((i : Nat) : Int) + 1 } : Fr), acN 1) = _
    rw [Int.toNat_natCast, e, e2]
    rfl
  · have hl : (args.take i).length = i := by rw [List.length_take]; omega
    have e0 : offP (mainW args.length :: p.map shF) ⟨1, i, 0⟩ = 0 := rfl
    unfold roomX
    rw [e0]
    show (decide (0 ≤ (0 : Int)) && decide ((0 : Int) ≤ ((args.take i).length : Int)) && (decide ((1 : Int) = 0) || decide (((args.take i).length : Int) - 0 + 1 ≤ 16))) = true
    rw [hl]
    simp only [Bool.and_eq_true, Bool.or_eq_true, decide_eq_true_eq]
    omega
theorem mw_loads (hn : args.length ≤ 8) (g m : Nat) : ∀ k : Nat, k ≤ args.length → runS (mainW args.length :: p.map shF) (g + k) (mfW args (args.take (args.length - k)) s (args.length - k) s0 0) (m + k) = runS (mainW args.length :: p.map shF) g (mfW args args s args.length s0 0) m
  | 0, _ => by rw [Nat.sub_zero, List.take_length]; rfl
  | k + 1, hk => by
    have h := mw_load (p := p) (s := s) hn (args.length - (k + 1)) (by omega)
    rw [show args.length - (k + 1) + 1 = args.length - k by omega] at h
    have := runS_go h (g + k) (m + k)
    rw [show g + (k + 1) = g + k + 1 by omega, show m + (k + 1) = m + k + 1 by omega, this]
    exact mw_loads hn g m k (by omega)
theorem mw_spawn (hn : args.length ≤ 8) {x0 : Fu} (h0 : p[0]? = some x0) (ha : x0.arity = args.length) : doF (mainW args.length :: p.map shF) (mfW args args s args.length s0 0) = (mfW args [] s (args.length + 1) ⟨1, noK, o0⟩ 1, ⟨2, 1, 0, childI s 0, args⟩) := by
  have hp0 : 0 < p.length := (List.getElem?_eq_some_iff.1 h0).1
  have ho : offP (mainW args.length :: p.map shF) ⟨13, 1, 0⟩ = args.length := by
    unfold offP
    rw [if_pos rfl]
    show (((mainW args.length :: p.map shF)[1]?).map (fun f : Fu => f.arity)).getD 0 = _
    rw [List.getElem?_cons_succ, List.getElem?_map, h0]
    exact ha
  have hx : instrAt (mainW args.length :: p.map shF) (mfW args args s args.length s0 0) = some ⟨13, 1, 0⟩ := by
    refine instr_at (by show (0 : Int) ≤ ((args.length : Nat) : Int); omega) ?_ ?_
    · show (mainW args.length).c[((args.length : Nat) : Int).toNat]? = _
      rw [Int.toNat_natCast]; exact mw_end (k := 0)
    · unfold thereX
      rw [show imay ⟨13, 1, 0⟩ = true from rfl, if_neg (by decide), if_neg (by decide), if_pos rfl]
      have e1 : decide ((1 : Int) < ((mainW args.length :: p.map shF).length : Int)) = true := decide_eq_true (by simp; omega)
      rw [e1]; rfl
  rw [do_at rfl ⟨Int.le_refl _, by simp [mfW]⟩ hx ?_]
  · rw [run13]
    unfold spawnF
    rw [if_neg (by simp [slotAt, mfW, s0]), ho, Int.toNat_natCast]
    show (({ mfW args (args.take (args.length - args.length)) s args.length ⟨1, noK, o0⟩ 0 with pc := ((args.length : Nat) : Int) + 1, spawned := IntKind.i64.wrap (0 + 1) } : Fr), (⟨2, 1, 0, childI s 0, args.drop (args.length - args.length)⟩ : Ac)) = _
    rw [Nat.sub_self, List.take_zero, List.drop_zero]
    rfl
  · unfold roomX
    rw [ho]
    show (decide (0 ≤ (args.length : Int)) && decide ((args.length : Int) ≤ (args.length : Int)) && (decide ((0 : Int) = 0) || _)) = true
    simp
theorem mw_join0 (hn : args.length ≤ 8) {o : Ou} (ho : o.trap = 0) : doF (mainW args.length :: p.map shF) (mfW args [] s (args.length + 1) ⟨2, noK, o⟩ 1) = (mfW args [o.v] s (args.length + 2) s0 1, acN 1) := by
  have hx : instrAt (mainW args.length :: p.map shF) (mfW args [] s (args.length + 1) ⟨2, noK, o⟩ 1) = some ⟨14, 0, 0⟩ := by
    refine instr_at (by show (0 : Int) ≤ ((args.length + 1 : Nat) : Int); omega) ?_ rfl
    show (mainW args.length).c[((args.length + 1 : Nat) : Int).toNat]? = _
    rw [Int.toNat_natCast]; exact mw_end (k := 1)
  rw [do_at rfl ⟨Int.le_refl _, by simp [mfW]⟩ hx rfl]
  rw [run14]
  unfold joinF
  rw [if_neg (by simp [slotAt, mfW]), if_neg (by simp [slotAt, mfW]), if_neg (by simp [slotAt, mfW, ho])]
  rfl
theorem mw_join1 (hn : args.length ≤ 8) {o : Ou} (ho : o.trap ≠ 0) : doF (mainW args.length :: p.map shF) (mfW args [] s (args.length + 1) ⟨2, noK, o⟩ 1) = ({ mfW args [] s (args.length + 1) s0 1 with state := 2, out := ⟨o.trap, v0⟩ }, acN 4) := by
  have hx : instrAt (mainW args.length :: p.map shF) (mfW args [] s (args.length + 1) ⟨2, noK, o⟩ 1) = some ⟨14, 0, 0⟩ := by
    refine instr_at (by show (0 : Int) ≤ ((args.length + 1 : Nat) : Int); omega) ?_ rfl
    show (mainW args.length).c[((args.length + 1 : Nat) : Int).toNat]? = _
    rw [Int.toNat_natCast]; exact mw_end (k := 1)
  rw [do_at rfl ⟨Int.le_refl _, by simp [mfW]⟩ hx rfl]
  rw [run14]
  unfold joinF
  rw [if_neg (by simp [slotAt, mfW]), if_neg (by simp [slotAt, mfW]), if_pos (by simp [slotAt, mfW]; exact ho)]
  rfl
theorem mw_ret (hn : args.length ≤ 8) (v : Vl) : doF (mainW args.length :: p.map shF) (mfW args [v] s (args.length + 2) s0 1) = ({ mfW args [] s (args.length + 2) s0 1 with state := 2, out := ⟨0, v⟩ }, acN 4) := by
  have hx : instrAt (mainW args.length :: p.map shF) (mfW args [v] s (args.length + 2) s0 1) = some ⟨15, 0, 0⟩ := by
    refine instr_at (by show (0 : Int) ≤ ((args.length + 2 : Nat) : Int); omega) ?_ rfl
    show (mainW args.length).c[((args.length + 2 : Nat) : Int).toNat]? = _
    rw [Int.toNat_natCast]; exact mw_end (k := 2)
  rw [do_at rfl ⟨Int.le_refl _, by simp [mfW]⟩ hx rfl]
  rfl
/-- how it ends -/
theorem mw_run (hg : good p = true) (hl : p.length ≤ 15) (hn : args.length ≤ 8) {x0 : Fu} (h0 : p[0]? = some x0) (ha : x0.arity = args.length) (hs : isS s = true) {f : Fr} (hf : newF p 0 args (childI s 0) = some f) (n : Nat) (hn2 : n + args.length + 3 ≤ 100000) :
    runS (mainW args.length :: p.map shF) (n + args.length + 4) (mfW args [] s 0 s0 0) (n + args.length + 3) = match runS p (n + 3) f (n + 2) with
      | none => none
      | some (o, k) => if k = 0 then none else if o.trap ≠ 0 then some (⟨o.trap, v0⟩, k - 1) else if k = 1 then none else some (⟨0, o.v⟩, k - 2) := by
  have hq := good_mw hg hl hn h0 ha
  have e1 := mw_loads (p := p) (s := s) hn (n + 4) (n + 3) args.length (Nat.le_refl _)
  rw [Nat.sub_self, List.take_zero] at e1
  rw [show n + args.length + 4 = n + 4 + args.length by omega, show n + args.length + 3 = n + 3 + args.length by omega, e1]
  have S := sim_sh (m := mainW args.length) hg hl
  have hc : newF (mainW args.length :: p.map shF) 1 args (childI s 0) = some (f.sh (1 : Nat) (childI s 0)) := by
    have := sim_new S (good_iff.1 hq).1 hf (childS s 0)
    simpa using this
  rw [runS_sp (mw_spawn hn h0 ha) hc (n + 3) (n + 2)]
  have hseed : f.seed = childI s 0 := by
    have h := hf
    unfold newF at h
    split at h
    · split at h
      · cases h
      · split at h
        · cases h; rfl
        · cases h
    · cases h
  rw [runS_sim hg (good_iff.1 hq).1 S (n + 3) f (n + 2) _ (new_sf hg hf) (.inr hseed.symm)]
  cases hr : runS p (n + 3) f (n + 2) with
  | none => rfl
  | some r =>
    obtain ⟨o, k⟩ := r
    simp only
    have hk := runS_lt _ _ _ _ _ hr
    have hgive : (giveF (mfW args [] s (args.length + 1) ⟨1, noK, o0⟩ 1) 0 o).1 = mfW args [] s (args.length + 1) ⟨2, noK, o⟩ 1 := rfl
    rw [hgive]
    cases k with
    | zero => rfl
    | succ k =>
      rw [if_neg (by omega)]
      by_cases ht : o.trap ≠ 0
      · rw [if_pos ht, runS_end (mw_join1 hn ht) (n + 2) k, Nat.add_sub_cancel]
        have : finF { mfW args [] s (args.length + 1) s0 1 with state := 2, out := ⟨o.trap, v0⟩ } = (⟨o.trap, v0⟩, true) := by
          unfold finF
          rw [if_neg (by simp [mfW, s0]), if_pos ht]
        rw [this]
      · have ht0 : o.trap = 0 := Decidable.not_not.1 ht
        rw [if_neg ht, runS_go (mw_join0 hn ht0) (n + 2) k]
        cases k with
        | zero => rfl
        | succ k =>
          rw [if_neg (by omega), runS_end (mw_ret hn o.v) (n + 1) k]
          rfl
end
end Go.Proofs.YtlpadffinfijgaaW.Rg
