/- A frame of a program with which nothing is wrong never ends for want of a value, of room, or of a place. No conditions. -/
import Derived.Test.YtghidjgejmmcmaaVmS9
set_option linter.unusedVariables false
set_option linter.unusedSimpArgs false
namespace Go.Proofs.YtghidjgejmmcmaaW.Rg
open Go.Proofs.YtghidjgejmmcmaaW.Vm Go.Proofs.YtghidjgejmmcmaaW.Md
open Go Go.Proofs
@[simp] theorem bq_encV (b : Option (List Vl)) : beq (encL 2 encV b) (encL 2 encV b) = true := by cases b <;> simp [encL, bq_vals]
@[simp] theorem bq_encS (b : Option (List Slt)) : beq (encL 6 encSlt b) (encL 6 encSlt b) = true := by cases b <;> simp [encL, bq_slts]
theorem step_spec (p : Option (List Fu)) (f : Fr) (a b : Option (List Vl)) (z : Option (List Slt)) (ha : a.getD [] = f.stack) (hb : b.getD [] = f.locals) (hz : z.getD [] = f.slots) (o : Ou) (h1 : f.stack.length ≤ 2 ^ 39) (h2 : f.locals.length ≤ 2 ^ 39) (h3 : f.slots.length ≤ 2 ^ 39)
    (hcl : ∀ g ∈ p.getD [], g.c.length < 2 ^ 62) (hpl : (p.getD []).length < 2 ^ 63) :
    ∃ a' b' z', fnc Try.prog cfg R 12 [encProg p, frC f (encL 2 encV a) (encL 2 encV b) (encL 6 encSlt z), encO o] = some (.tup [frC (stepF (p.getD []) f o).1 (encL 2 encV a') (encL 2 encV b') (encL 6 encSlt z'), I (stepF (p.getD []) f o).2]) ∧
      a'.getD [] = (stepF (p.getD []) f o).1.stack ∧ b'.getD [] = (stepF (p.getD []) f o).1.locals ∧ z'.getD [] = (stepF (p.getD []) f o).1.slots := by
  have exz : ∀ (h : List Ob) (z : Option (List Slt)), exp1 h (encL 6 encSlt z) = some (encL 6 encSlt z) := fun h z => exp_clean (by simp) (by simp)
  obtain ⟨d1, d2, e1, ⟨a1, b1, z1, rfl, g1, g2, g3⟩, ⟨k, rfl, g4⟩⟩ := Do_spec p f _ ⟨a, b, z, rfl, ha, hb, hz⟩ (by omega) (by omega) (by omega) hcl hpl
  have ln := do_len (p.getD []) f
  have st := still_do (p.getD []) f
  have hd := dr12_4
  simp [opsAt, opsIn, Try.f12] at hd
  have hdw := Wdraw hd
  clear hd
  unfold stepF
  generalize (doF (p.getD []) f).1 = g at *
  generalize (doF (p.getD []) f).2 = c at *
  cases k1 : decide (c.kind = 2)
  · rw [if_neg (of_decide_eq_false k1)]
    refine ⟨a1, b1, z1, ?_, g1, g2, g3⟩
    rw [fnc_at rfl, body_eq Try.func12 rfl rfl]
    simp [argsσ, Vm.results, exz, e1, k1, hdw, logL, loud, isE, drawChk]
  · rw [if_pos (of_decide_eq_true k1)]
    have k2 := of_decide_eq_true k1
    obtain ⟨d3, e3, a3, b3, z3, rfl, q1, q2, q3⟩ := give_spec g a1 b1 z1 g1 g2 g3 c.slot o (by omega) (by rw [st.loc]; omega) (by rw [st.slt]; omega)
    refine ⟨a3, b3, z3, ?_, q1, q2, q3⟩
    generalize (giveF g c.slot o).2 = B at *
    generalize (giveF g c.slot o).1 = G at *
    rw [fnc_at rfl, body_eq Try.func12 rfl rfl]
    simp [argsσ, Vm.results, exz, e1, k1, e3, hdw, logL, loud, isE, drawChk]
    exact k2
/-- the frame that the law begins with -/
theorem safe_new {p : List Fu} (hg : good p = true) {n : Nat} {x : Fu} (hx : p[n]? = some x) :
    ∃ f, newF p n (List.replicate x.arity.toNat v0) 3 = some f ∧ SafeI n x (depthsOf p x) [] f ∧ f.stack.length ≤ 16 ∧ f.locals.length ≤ 16 ∧ f.slots.length ≤ 8 := by
  have hm := List.mem_of_getElem? hx
  obtain ⟨_, F⟩ := good_fin hg hm
  obtain ⟨hmay, hgf⟩ := good_iff.1 hg
  obtain ⟨har, _, _⟩ := hgf x hm
  have hfm := mayP_f hmay hm
  have hh := fmay_head hfm
  have hl := fmay_len hfm
  have hn : n < p.length := (List.getElem?_eq_some_iff.1 hx).1
  have hlen : (depthsOf p x).length = x.c.length := by rw [F.len, shapes_len]
  refine ⟨⟨n, 0, [], List.replicate x.arity.toNat v0 ++ List.replicate (x.locals.toNat - x.arity.toNat) v0, List.replicate x.slots.toNat s0, 3, 0, 0, 0, 0, o0, noK, 0⟩, ?_, ⟨rfl, rfl, ⟨Int.le_refl _, by rw [hlen]; show (0 : Int) < _; omega⟩, by rw [show Int.toNat 0 = 0 from rfl, F.d0]; rfl, by simp; omega, by simp; omega, fun s hs => ?_⟩, by simp, by simp; omega, by simp; omega⟩
  · unfold newF
    rw [if_pos ⟨hmay, by omega, by omega, by decide⟩, Int.toNat_natCast, hx]
    simp only [List.length_replicate]
    have hal : (List.replicate x.arity.toNat v0).all Vl.may = true := by
      rw [List.all_eq_true]
      intro v hv
      have e := (List.mem_replicate.1 hv).2
      subst e
      decide
    rw [if_pos ⟨har, by omega, hal⟩]
  · exact .inl (by rw [(List.mem_replicate.1 hs).2, s0])
/-- how long a frame's lists are, while it is safe -/
theorem safe_len {p : List Fu} (hg : good p = true) {n : Nat} {x : Fu} (hx : p[n]? = some x) {seen : List Ou} {f : Fr} (I : SafeI n x (depthsOf p x) seen f) : f.stack.length ≤ 16 ∧ f.locals.length ≤ 16 ∧ f.slots.length ≤ 8 := by
  have hm := List.mem_of_getElem? hx
  obtain ⟨_, F⟩ := good_fin hg hm
  have hh := fmay_head (mayP_f (good_iff.1 hg).1 hm)
  have h1 := I.dep; have h2 := I.loc; have h3 := I.slt
  have h4 := F.rng f.pc.toNat
  omega
/-- a trap that was told -/
def told34 (l : List Ou) : Bool := l.any fun o => decide (o.trap = 3) || decide (o.trap = 4)
theorem told34_app (l : List Ou) (o : Ou) : told34 (l ++ [o]) = (told34 l || (decide (o.trap = 3) || decide (o.trap = 4))) := by simp [told34]
@[simp] theorem ixL_out (b : Option (List Ou)) (i : D) : indexAddrD Try.prog 24 (encL 3 encO b) i = (idxD (b.getD []).length i).map fun i => .fptr 3 ((b.getD []).map encO) i 0 := ixL un24 sz36 b i
theorem told_loop (l : Option (List Ou)) (n : Nat) (hn : n < (l.getD []).length) (hl : (l.getD []).length ≤ 100) (H : List Ob) {X : Type} (K : Ex × St → Option X) (Q : Option X → Prop) : ∀ (m i : Nat) (t : Bool) (σ : Nat → D), i + m = n → σ 2 = encL 3 encO l → σ 12 = I n → σ 15 = .bool t → σ 16 = I i →
    (∀ σ', (∀ j, j ≠ 15 → j ≠ 16 → j < 131 → σ' j = σ j) → σ' 15 = .bool (t || told34 (((l.getD []).take n).drop i)) → Q (K (.exit 4, ⟨σ', H, 180⟩))) →
    Q ((W Try.prog cfg (.loop (loopAt Try.f3 20)) ⟨σ, H, 180⟩).bind K) := by
  intro m
  induction m with
  | zero =>
    intro i t σ hi s2 s12 s15 s16 hK
    have h0 : ¬ (i < n) := by omega
    rw [Wloop]
    conv => arg 1; arg 1; arg 1; simp [loopAt, loopIn, headId, Try.f3, s2, s12, s15, s16, h0]
    refine hK _ (fun j h1 h2 h3 => ?_) ?_
    · simp only [upd]
      repeat rw [if_neg (by omega)]
    · rw [List.drop_eq_nil_of_le (by simp; omega)]
      simp [told34, s15]
  | succ m ih =>
    intro i t σ hi s2 s12 s15 s16 hK
    have hlt : decide (i < n) = true := dt (by omega)
    have hil : i < (l.getD []).length := by omega
    have hix := idxD_nat .i64 hil
    have hg : (l.getD [])[i]? = some (l.getD [])[i] := List.getElem?_eq_getElem hil
    have hw : IntKind.i64.wrap ((i : Int) + 1) = ((i + 1 : Nat) : Int) := wr (by omega) (by omega)
    have hdp : ((l.getD []).take n).drop i = (l.getD [])[i] :: ((l.getD []).take n).drop (i + 1) := by
      rw [List.drop_eq_getElem_cons (by simp; omega)]
      simp
    have ht : ∀ b : Bool, (b || told34 (((l.getD []).take n).drop i)) = ((b || (decide ((l.getD [])[i].trap = 3) || decide ((l.getD [])[i].trap = 4))) || told34 (((l.getD []).take n).drop (i + 1))) := by
      intro b; rw [hdp]; simp [told34, Bool.or_assoc]
    rw [ht] at hK
    clear ht hdp
    generalize (l.getD [])[i] = u at *
    rw [Wloop]
    cases t with
    | true =>
      conv => arg 1; arg 1; arg 1; simp [loopAt, loopIn, headId, Try.f3, s2, s12, s15, s16, hlt, hw]
      rw [Option.bind_some, loopK_normal]
      refine ih (i + 1) true _ (by omega) (by simp [s2]) (by simp [s12]) (by simp) (by simp) ?_
      intro σ' h1 h2
      refine hK σ' (fun j a b c => ?_) (by rw [h2]; simp)
      rw [h1 j a b c]
      simp only [upd]
      repeat rw [if_neg (by omega)]
    | false =>
      cases k1 : decide (u.trap = 3) with
      | true =>
        conv => arg 1; arg 1; arg 1; simp [loopAt, loopIn, headId, Try.f3, s2, s12, s15, s16, hlt, hw, hix, hg, k1]
        rw [Option.bind_some, loopK_normal]
        refine ih (i + 1) true _ (by omega) (by simp [s2]) (by simp [s12]) (by simp) (by simp) ?_
        intro σ' h1 h2
        refine hK σ' (fun j a b c => ?_) (by rw [h2]; simp [k1])
        rw [h1 j a b c]
        simp only [upd]
        repeat rw [if_neg (by omega)]
      | false =>
        conv => arg 1; arg 1; arg 1; simp [loopAt, loopIn, headId, Try.f3, s2, s12, s15, s16, hlt, hw, hix, hg, k1]
        rw [Option.bind_some, loopK_normal]
        refine ih (i + 1) (decide (u.trap = 4)) _ (by omega) (by simp [s2]) (by simp [s12]) (by simp) (by simp) ?_
        intro σ' h1 h2
        refine hK σ' (fun j a b c => ?_) (by rw [h2]; simp [k1])
        rw [h1 j a b c]
        simp only [upd]
        repeat rw [if_neg (by omega)]
end Go.Proofs.YtghidjgejmmcmaaW.Rg
