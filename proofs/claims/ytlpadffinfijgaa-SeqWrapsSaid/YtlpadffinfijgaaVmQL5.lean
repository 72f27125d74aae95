/- SeqWraps. No conditions. -/
import Derived.Test.YtlpadffinfijgaaVmQL4
set_option linter.unusedVariables false
set_option linter.unusedSimpArgs false
set_option maxRecDepth 10000
namespace Go.Proofs.YtlpadffinfijgaaW.Rg
open Go.Proofs.YtlpadffinfijgaaW.Vm Go.Proofs.YtlpadffinfijgaaW.Md
open Go Go.Proofs
theorem wraps_ev {p : List Fu} {args : List Vl} {s : Int} (hg : good p = true) (hl : p.length ≤ 15) (hn : args.length ≤ 8) {x0 : Fu} (h0 : p[0]? = some x0) (ha : (args.length : Int) = x0.arity) (hs : isS s = true) :
    (evS p args (childI s 0) 2000 = (o0, 0, 1) ∧ evS (mainW args.length :: p.map shF) args s 2100 = (o0, 0, 1)) ∨
    (evS p args (childI s 0) 2000 = (o0, 0, 100) ∧ (evS (mainW args.length :: p.map shF) args s 2100 = (o0, 0, 100) ∨ ∃ o c, evS (mainW args.length :: p.map shF) args s 2100 = (o, c, 0) ∧ 2000 < c ∧ c < 10000)) ∨
    ∃ o c c2, evS p args (childI s 0) 2000 = (o, c, 0) ∧ c ≤ 2000 ∧ evS (mainW args.length :: p.map shF) args s 2100 = (o, c2, 0) ∧ ((o.trap = 0 ∧ c2 = c + (args.length + 3)) ∨ (o.trap ≠ 0 ∧ c2 = c + (args.length + 2))) := by
  have hq := good_mw hg hl hn h0 ha.symm
  have hf : ∀ f, newF p 0 args (childI s 0) = some f → newF (mainW args.length :: p.map shF) 0 args s = some (mfW args [] s 0 s0 0) := fun f hf => by
    have hall : args.all Vl.may = true := by
      unfold newF at hf
      split at hf
      · split at hf
        · cases hf
        · split at hf
          · rename_i h2; exact h2.2.2
          · cases hf
      · cases hf
    unfold newF
    rw [if_pos ⟨(good_iff.1 hq).1, by decide, by simp, hs⟩]
    show (if (args.length : Int) ≤ args.length ∧ (args.length : Int) = args.length ∧ args.all Vl.may = true then some (⟨0, 0, [], args ++ List.replicate (((args.length : Nat) : Int).toNat - args.length) v0, List.replicate (1 : Int).toNat s0, s, 0, 0, 0, 0, o0, noK, 0⟩ : Fr) else none) = _
    rw [if_pos ⟨Int.le_refl _, rfl, hall⟩, Int.toNat_natCast, Nat.sub_self, List.replicate_zero, List.append_nil]
    rfl
  cases hc : newF p 0 args (childI s 0) with
  | none =>
    refine .inl ⟨evS_none hc, evS_none (new_none fun h => ?_)⟩
    have hcs := childS s 0
    obtain ⟨g1, g2⟩ := good_iff.1 hg
    obtain ⟨har, _⟩ := g2 x0 (List.mem_of_getElem? h0)
    have hp0 := (List.getElem?_eq_some_iff.1 h0).1
    unfold newF at hc
    rw [if_pos ⟨g1, by decide, by omega, hcs⟩, show Int.toNat 0 = 0 from rfl, h0] at hc
    simp only at hc
    rw [if_pos ⟨har, ha, h.2.2.2⟩] at hc
    cases hc
  | some f =>
    have hf2 := hf f hc
    have S := new_sf hg hc
    have e1 := ev_of (n := 2000) hg hc (by omega) (by omega)
    have e2 := ev_of (n := 2100) hq hf2 (by omega) (by omega)
    obtain ⟨n', hn'⟩ : ∃ n', n' = 2097 - args.length := ⟨_, rfl⟩
    have hr := mw_run hg hl hn h0 ha.symm hs hc n' (by omega)
    rw [show n' + args.length + 4 = 2100 + 1 by omega, show n' + args.length + 3 = 2100 by omega] at hr
    rw [hr] at e2
    have e1' : evS p args (childI s 0) 2000 = match runS p (2000 + 1) f 2000 with | some (o, m) => (o, 2000 - m, 0) | none => (o0, 0, 100) := e1
    have e2' : evS (mainW args.length :: p.map shF) args s 2100 = match (match runS p (n' + 3) f (n' + 2) with | none => none | some (o, k) => if k = 0 then none else if o.trap ≠ 0 then some ((⟨o.trap, v0⟩ : Ou), k - 1) else if k = 1 then none else some (⟨0, o.v⟩, k - 2)) with | some (o, m) => (o, 2100 - m, 0) | none => (o0, 0, 100) := e2
    cases h1 : runS p (2000 + 1) f 2000 with
    | none =>
      rw [h1] at e1'
      refine .inr (.inl ⟨e1', ?_⟩)
      cases h2 : runS p (n' + 3) f (n' + 2) with
      | none => rw [h2] at e2'; exact .inl e2'
      | some q =>
        obtain ⟨o, k⟩ := q
        rw [h2] at e2'
        simp only at e2'
        have hk := runS_lt _ _ _ _ _ h2
        have hlong : 2000 < n' + 2 - k := by
          by_cases h : n' + 2 - k ≤ 2000
          · have := runS_enough h2 2000 h
            rw [runS_gas hg (n' + 3) 2001 f 2000 S (by omega) (by omega), h1] at this
            cases this
          · omega
        by_cases k0 : k = 0
        · rw [if_pos k0] at e2'; exact .inl e2'
        rw [if_neg k0] at e2'
        by_cases ht : o.trap ≠ 0
        · rw [if_pos ht] at e2'
          exact .inr ⟨_, _, e2', by omega, by omega⟩
        rw [if_neg ht] at e2'
        by_cases k1 : k = 1
        · rw [if_pos k1] at e2'; exact .inl e2'
        rw [if_neg k1] at e2'
        exact .inr ⟨_, _, e2', by omega, by omega⟩
    | some q =>
      obtain ⟨o, k⟩ := q
      rw [h1] at e1'
      have hk := runS_lt _ _ _ _ _ h1
      obtain ⟨ho, _⟩ := runS_ok hg _ _ _ _ _ S h1
      have h2 : runS p (n' + 3) f 2000 = some (o, k) := by rw [runS_gas hg (n' + 3) 2001 f 2000 S (by omega) (by omega)]; exact h1
      have h3 := runS_enough h2 (n' + 2) (by omega)
      rw [h3] at e2'
      simp only at e2'
      rw [if_neg (by omega)] at e2'
      refine .inr (.inr ⟨o, 2000 - k, ?_⟩)
      by_cases ht : o.trap ≠ 0
      · rw [if_pos ht] at e2'
        have : (⟨o.trap, v0⟩ : Ou) = o := by
          rcases ho.2 with h | h
          · exact absurd h ht
          · obtain ⟨t, v⟩ := o
            simp only at h
            rw [h.1]
        rw [this] at e2'
        exact ⟨_, e1', by omega, e2', .inr ⟨ht, by omega⟩⟩
      · have ht0 : o.trap = 0 := Decidable.not_not.1 ht
        rw [if_neg ht, if_neg (by omega)] at e2'
        have : (⟨0, o.v⟩ : Ou) = o := by
          obtain ⟨t, v⟩ := o
          simp only at ht0
          rw [ht0]
        rw [this] at e2'
        exact ⟨_, e1', by omega, e2', .inl ⟨ht0, by omega⟩⟩
section
variable (p : Option (List Fu)) (a : Option (List Vl)) (s : Int)
theorem wr_out (n : Nat) (hl : (p.getD []).length ≤ 20) (hcl : ∀ g ∈ p.getD [], (1 ≤ g.c.length ∧ g.c.length ≤ 200) ∧ ∀ x ∈ g.c, -1000 ≤ x.a ∧ x.a ≤ 1000) {X : Type} (K : Ex × St → Option X) (Q : Option X → Prop) :
    ∀ (rest : List Fu) (i : Nat) (σ : Nat → D) (H : List Ob) (v : Nat) (d0 : D) (ds : List D), (p.getD []).drop i = rest → ds.length = i →
    H[0]? = some (oIn p a s) → H[3]? = some ⟨v, 4, d0 :: ds, 0⟩ → FunsOf H (d0 :: ds) (mainW n :: ((p.getD []).take i).map shF) →
    σ 1 = .ptr 0 0 0 0 → σ 3 = I n → σ 6 = .own 4 3 v 0 (i + 1) → σ 7 = I i →
    (∀ σ' H' v' ds', ds'.length = (p.getD []).length → H'[0]? = some (oIn p a s) → H'[3]? = some ⟨v', 4, d0 :: ds', 0⟩ → FunsOf H' (d0 :: ds') (mainW n :: (p.getD []).map shF) →
      σ' 1 = .ptr 0 0 0 0 → σ' 3 = I n → σ' 6 = .own 4 3 v' 0 ((p.getD []).length + 1) → Q (K (.exit 2, ⟨σ', H', 210⟩))) →
    Q ((W Try.prog cfgE (.loop (loopAt Try.f8 12)) ⟨σ, H, 210⟩).bind K) := by
  intro rest
  induction rest with
  | nil =>
    intro i σ H v d0 ds hd hdl h0 h3 hF s1 s3 s6 s7 he
    have hi : ¬ (i < (p.getD []).length) := by have := congrArg List.length hd; simp at this; omega
    have hi2 : decide (i < (p.getD []).length) = false := df hi
    rw [Wloop]
    conv => arg 1; arg 1; arg 1; simp [loopAt, loopIn, headId, Try.f8, s1, s7, h0, hi2, hi, -getElem?_pos]
    have hdl2 := hF
    have hil : i = (p.getD []).length ∨ (p.getD []).length < i := by omega
    have htk : (p.getD []).take i = p.getD [] := List.take_of_length_le (by omega)
    rw [htk] at hF
    have hlen : ds.length = (p.getD []).length := by
      have : ∀ {H : List Ob} {ds : List D} {l : List Fu}, FunsOf H ds l → ds.length = l.length := fun h => by
        induction h with
        | nil => rfl
        | cons _ _ ih => simp [ih]
      have := this hF
      simpa using this
    have hie : i = (p.getD []).length := by omega
    exact he _ H v ds hlen h0 h3 hF (by simp [s1]) (by simp [s3]) (by simp [s6, hie])
  | cons g rest ih =>
    intro i σ H v d0 ds hd hdl h0 h3 hF s1 s3 s6 s7 he
    obtain ⟨hg1, hd1, hi⟩ := drop_get hd
    have hlt2 : decide (i < (p.getD []).length) = true := dt hi
    have hx := idxD_nat .i64 hi
    have hw : IntKind.i64.wrap ((i : Int) + 1) = ((i + 1 : Nat) : Int) := wr (by omega) (by omega)
    obtain ⟨⟨c1, c2⟩, c3⟩ := hcl g (List.mem_of_getElem? hg1)
    have c1' : 1 ≤ (g.code.getD []).length := c1
    have c2' : (g.code.getD []).length ≤ 200 := c2
    have ap2 : ∀ h : List Ob, apK 24 3 h (D.sl 3 [] true) [] ((g.code.getD []).map encInstr) = some (.own 3 h.length 0 0 (g.code.getD []).length, h ++ [⟨0, 3, (g.code.getD []).map encInstr, 0⟩]) := by
      intro h
      rw [apK_ok (by simp only [List.length_nil, List.length_map]; omega), apN_sl' (by rw [List.length_map]; omega)]; simp [newOb]
    have l0 := hlt h0; have l3 := hlt h3
    have g0 : ∀ T : List Ob, (H ++ T)[0]? = some (oIn p a s) := fun T => by rw [get_lt l0]; exact h0
    have g3 : ∀ T : List Ob, (H ++ T)[3]? = some ⟨v, 4, d0 :: ds, 0⟩ := fun T => by rw [get_lt l3]; exact h3
    have hbs := fun dst ty pos af g st ps => op_bslice (P := Try.prog) (cfg := cfgE) (run := RE) dst ty pos af g st (z := 41) (n := 1) ps el23 sz41 ag41 ze41 (by rw [plus_lit]; rfl) (by simp [fits_agg ag41 sz41]) (by decide) (by decide)
    rw [Wloop]
    conv => arg 1; arg 1; arg 1; simp [loopAt, loopIn, headId, Try.f8, s1, s6, s7, h0, g0, hlt2, hi, hx, hg1, ap2, -getElem?_pos]
    simp only [Option.bind_assoc]
    refine wr_in g c3 c2 H.length _ Q g.c 0 _ (H ++ [⟨0, 4, [.agg [I g.arity, I g.locals, I g.slots, .own 3 (H.length + 1) 0 0 g.c.length]], 0⟩, ⟨0, 3, g.c.map encInstr, 0⟩]) rfl ?_ ?_ ?_ ?_ ?_
    · simp
    · simp
    · simp
    · simp
    intro σ' h7 h8
    have e1 : σ' 1 = .ptr 0 0 0 0 := by rw [h7 1 (by decide)]; simp [s1]
    have e3 : σ' 3 = I n := by rw [h7 3 (by decide)]; simp [s3]
    have e6 : σ' 6 = .own 4 3 v 0 (i + 1) := by rw [h7 6 (by decide)]; simp [s6]
    have e7 : σ' 7 = I i := by rw [h7 7 (by decide)]; simp [s7]
    clear h7
    obtain ⟨co, hco⟩ : ∃ co : Ob, co = ⟨0, 3, (g.c.map (shI 1)).map encInstr, 0⟩ := ⟨_, rfl⟩
    obtain ⟨cl, hcl2⟩ : ∃ cl : Nat, cl = g.c.length := ⟨_, rfl⟩
    obtain ⟨dn, hdn⟩ : ∃ dn : D, dn = .agg [I g.arity, I g.locals, I g.slots, .own 3 (H.length + 1) 0 0 cl] := ⟨_, rfl⟩
    have hset : (H ++ [⟨0, 4, [.agg [I g.arity, I g.locals, I g.slots, .own 3 (H.length + 1) 0 0 g.c.length]], 0⟩, ⟨0, 3, g.c.map encInstr, 0⟩] : List Ob).set (H.length + 1) ⟨0, 3, (g.c.map (shI 1)).map encInstr, 0⟩ = H ++ [⟨0, 4, [dn], 0⟩, co] := by
      rw [set_app rfl 1, hco, hdn, hcl2]; rfl
    rw [hset]
    have el1 : elsZ (H ++ [⟨0, 4, [dn], 0⟩, co, ⟨0, 4, [dn], 0⟩]) 4 (.own 4 (H.length + 2) 0 0 1) = some [dn] := by
      simp [elsZ, elsOf_own]
    have el2 : elsZ (H ++ [⟨0, 4, [dn], 0⟩, co, ⟨0, 4, [dn], 0⟩]) 4 (.own 4 3 v 0 (i + 1)) = some (d0 :: ds) := by
      simp [elsZ, elsOf_own, g3, hdl]
      rw [List.take_of_length_le (by omega)]
    have ap3 : apK 48 4 (H ++ [⟨0, 4, [dn], 0⟩, co, ⟨0, 4, [dn], 0⟩]) (.own 4 3 v 0 (i + 1)) (d0 :: ds) [dn] = some (.own 4 3 (v + 1) 0 (i + 1 + 1), (H ++ [⟨0, 4, [dn], 0⟩, co, ⟨0, 4, [dn], 0⟩]).set 3 ⟨v + 1, 4, d0 :: (ds ++ [dn]), 0⟩) := by
      rw [apK_ok (by simp only [List.length_cons, List.length_nil, hdl]; omega), apN_own' (by simp), g3]
      simp
    have ld8 : ∀ T : List Ob, (H ++ (⟨0, 4, [dn], 0⟩ :: T))[H.length]? = some ⟨0, 4, [dn], 0⟩ := fun T => by simp
    have dcells : dn.cells = [I g.arity, I g.locals, I g.slots, .own 3 (H.length + 1) 0 0 cl] := by rw [hdn]; rfl
    have ld41 : ldEl dn 0 4 true = some dn := by rw [hdn]; rfl
    have done : dn.one = false := by rw [hdn]; rfl
    have dall : dn.cells.all D.one = true := by rw [dcells]; rfl
    have dlen : dn.cells.length = 4 := by rw [dcells]; rfl
    simp [e1, e3, e6, e7, h8, hbs, ld8, ld41, done, dlen, dall, el1, el2, ap3, hw, -getElem?_pos]
    refine ih (i + 1) _ _ (v + 1) d0 (ds ++ [dn]) hd1 (by simp [hdl]) ?_ ?_ ?_ (by simp [e1]) (by simp [e3]) (by simp) (by simp) he
    · rw [List.getElem?_set_ne (by decide)]; exact g0 _
    · rw [gs0 (by simp; omega)]
    · have ht : (p.getD []).take (i + 1) = (p.getD []).take i ++ [g] := by rw [List.take_add_one, hg1]; rfl
      rw [ht, List.map_append, ← List.cons_append, ← List.cons_append]
      refine FunsOf.snoc (x := shF g) ⟨H.length + 1, 0, cl, 0, g.c.map (shI 1), hdn, rfl, ?_, ?_⟩ (hF.keep fun id o ho hz => ?_)
      · rw [List.getElem?_set_ne (by omega), ← hco]
        simp
      · rw [List.length_map]; exact hcl2
      · have hne : id ≠ 3 := fun h => by rw [h, h3] at ho; cases ho; exact absurd hz (by show ¬ ((4 : Nat) = 3); decide)
        rw [List.getElem?_set_ne (fun h => hne h.symm), get_lt (hlt ho)]; exact ho
end
end Go.Proofs.YtlpadffinfijgaaW.Rg
