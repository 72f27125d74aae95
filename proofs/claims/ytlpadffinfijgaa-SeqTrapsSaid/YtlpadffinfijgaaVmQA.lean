/- One task behind the other: an instruction is counted; a frame's instructions, one by one. No conditions. -/
import Derived.Test.YtlpadffinfijgaaVmGF
import Derived.Test.YtlpadffinfijgaaVmXP
import Derived.Test.YtlpadffinfijgaaVmSF
import Derived.Test.YtlpadffinfijgaaVmCK
set_option linter.unusedVariables false
set_option linter.unusedSimpArgs false
set_option maxRecDepth 10000
namespace Go.Proofs.YtlpadffinfijgaaW.Rg
open Go.Proofs.YtlpadffinfijgaaW.Vm Go.Proofs.YtlpadffinfijgaaW.Md
open Go Go.Proofs
/-- a runner -/
@[reducible] def rnS (p : Option (List Fu)) (l u : Nat) : D := .agg [encProg p, I l, I u]
@[reducible] def oRn (p : Option (List Fu)) (l u : Nat) : Ob := ⟨0, 3, [rnS p l u], 0⟩
/-- all other objects stay -/
def Kp (h h' : List Ob) (r : Nat) : Prop := h.length ≤ h'.length ∧ ∀ i, i < h.length → i ≠ r → h'[i]? = h[i]?
theorem hlt {H : List Ob} {r : Nat} {o : Ob} (h : H[r]? = some o) : r < H.length := (List.getElem?_eq_some_iff.1 h).1
theorem count_spec (p : Option (List Fu)) (l u : Nat) (hl : l < 2 ^ 60) (hu : u < 2 ^ 60) {H : List Ob} {r : Nat} (ho : H[r]? = some (oRn p (l + 1) u)) :
    body Try.prog R 37 [.ptr r 0 0 0] H = some (.tup [], H.set r (oRn p l (u + 1))) := by
  have hl' := hlt ho
  have e0 : decide (((l : Int) + 1) = 0) = false := decide_eq_false (by omega)
  have w1 : IntKind.i64.wrap (l : Int) = (l : Int) := wr (by omega) (by omega)
  have w2 : IntKind.i64.wrap ((u : Int) + 1) = (u : Int) + 1 := wr (by omega) (by omega)
  rw [body_eq Try.func37 rfl rfl]
  simp [argsσ, Vm.results, ho, hl', gs0 hl', op_nilp, e0, w1, w2, -getElem?_pos]
  rfl
theorem unSp : Try.prog.underlying 66 = some (.struct #[]) := rfl
/-- what goes up -/
@[reducible] def spentD : D := .ifc 66 (.agg [])
theorem fitW : Fit Try.prog cfg := ⟨⟨fun f g h => by rw [cfg_ext] at h; cases h⟩, by decide⟩
theorem count_pan (p : Option (List Fu)) (u : Nat) {H : List Ob} {r : Nat} (ho : H[r]? = some (oRn p 0 u)) : CallGo Try.prog 37 [.ptr r 0 0 0] H (.pan spentD) H := by
  have hl' := hlt ho
  refine callGo_panTo Try.func37 rfl rfl ?_
  refine panTo_left (panTo_seq (s1 := ⟨_, H, 23⟩) fitW (by
    conv => lhs; simp [argsσ, ho, hl', op_nilp, -getElem?_pos]) ?_)
  refine panTo_cond (b := true) (by simp [ev]) ?_
  exact panTo_panic fitW (s1 := ⟨_, H, 23⟩) (n := 2) rfl rfl rfl (by
    conv => lhs; simp [argsσ, op_mkIfc _ _ _ _ _ _ _ _ unSp (by simp), -getElem?_pos]) (by simp [ev]) rfl
end Go.Proofs.YtlpadffinfijgaaW.Rg
set_option linter.unusedVariables false
set_option linter.unusedSimpArgs false
set_option maxRecDepth 10000
namespace Go.Proofs.YtlpadffinfijgaaW.Rg
open Go.Proofs.YtlpadffinfijgaaW.Vm Go.Proofs.YtlpadffinfijgaaW.Md
open Go Go.Proofs
@[reducible] def z3 : Ob := ⟨0, 3, [.agg [I 0, I 0, I 0]], 0⟩
/-- while a frame is run: a: the first of its own objects -/
structure At24 (p : Option (List Fu)) (h0 : List Ob) (r a : Nat) (f : Fr) (l u : Nat) (σ : Nat → D) (H : List Ob) : Prop where
  s0 : σ 0 = .ptr r 0 0 0
  s3 : σ 3 = .ptr a 0 0 0
  s4 : σ 4 = .ptr (a + 1) 0 0 0
  s5 : σ 5 = .ptr (a + 2) 0 0 0
  s6 : σ 6 = .ptr (a + 3) 0 0 0
  or : H[r]? = some (oRn p l u)
  oa : ∃ d, H[a]? = some ⟨0, 16, [d], 0⟩ ∧ IsF d f
  o1 : H[a + 1]? = some z3
  o2 : ∃ x y z w v, H[a + 2]? = some ⟨0, 5, [.agg [x, y, z, w, v]], 0⟩
  o3 : H[a + 3]? = some z3
  ra : r < a
  kp : h0.length = a ∧ ∀ i, i < a → i ≠ r → H[i]? = h0[i]?
section
variable {p : Option (List Fu)} {h0 H : List Ob} {r a l u : Nat} {f : Fr} {σ : Nat → D}
theorem At24.al (A : At24 p h0 r a f l u σ H) : a + 3 < H.length := hlt A.o3
/-- an instruction is counted -/
theorem r3_ok (A : At24 p h0 r a f (l + 1) u σ H) (hl : l < 2 ^ 60) (hu : u < 2 ^ 60) :
    ∃ σ' H', W Try.prog cfg (.region 3 (opsAt Try.f24 3) false) ⟨σ, H, 56⟩ = some (.normal, ⟨σ', H', 56⟩) ∧ At24 p h0 r a f l (u + 1) σ' H' := by
  have hc := count_spec p l u hl hu A.or
  have s0 := A.s0
  have ra := A.ra
  refine ⟨_, _, by
    conv => lhs; simp [opsAt, opsIn, Try.f24, s0, hc], ?_⟩
  obtain ⟨d, h1, h2⟩ := A.oa
  obtain ⟨x, y, z, w, v, h3⟩ := A.o2
  exact ⟨by simp [s0], by simp [A.s3], by simp [A.s4], by simp [A.s5], by simp [A.s6], gs0 (hlt A.or) _, ⟨d, by rw [List.getElem?_set_ne (by omega)]; exact h1, h2⟩, by rw [List.getElem?_set_ne (by omega)]; exact A.o1,
    ⟨x, y, z, w, v, by rw [List.getElem?_set_ne (by omega)]; exact h3⟩, by rw [List.getElem?_set_ne (by omega)]; exact A.o3, ra, A.kp.1, fun i hi hne => by rw [List.getElem?_set_ne (fun h => hne h.symm)]; exact A.kp.2 i hi hne⟩
/-- an instruction is done -/
theorem r4_ok (A : At24 p h0 r a f l u σ H) {g : Fr} {c : Ac} (hdo : ∀ d, IsF d f → ∃ d1 d2, fnc Try.prog cfg R 38 [encProg p, d] = some (.tup [d1, d2]) ∧ IsF d1 g ∧ IsA d2 c) :
    ∃ σ' H', W Try.prog cfg (.region 4 (opsAt Try.f24 4) true) ⟨σ, H, 56⟩ = some (.normal, ⟨σ', H', 56⟩) ∧ At24 p h0 r a g l u σ' H' ∧ ∃ A', H'[a + 2]? = some ⟨0, 5, [encAc c (encL 2 encV A')], 0⟩ ∧ A'.getD [] = c.args := by
  obtain ⟨d, h1, h2⟩ := A.oa
  obtain ⟨x, y, z, w, v, h3⟩ := A.o2
  obtain ⟨d1, d2, e1, i1, i2⟩ := hdo d h2
  obtain ⟨S, L, Z, rfl, gS, gL, gZ⟩ := h2
  obtain ⟨S1, L1, Z1, rfl, gS1, gL1, gZ1⟩ := i1
  obtain ⟨A', rfl, gA⟩ := i2
  have s0 := A.s0; have s3 := A.s3; have s5 := A.s5; have ra := A.ra; have or := A.or; have al := A.al
  have hd := dr24_4
  simp [opsAt, opsIn, Try.f24] at hd
  have hdw := Wdraw hd
  clear hd
  have ha : a < H.length := by omega
  have ha2 : a + 2 < H.length := by omega
  have hr : r < H.length := by omega
  have e3 : ∀ o : Ob, (H.set a o)[a + 2]? = some ⟨0, 5, [.agg [x, y, z, w, v]], 0⟩ := fun o => by rw [List.getElem?_set_ne (by omega)]; exact h3
  have e4 : ∀ o : Ob, (H.set a o)[r]? = some (oRn p l u) := fun o => by rw [List.getElem?_set_ne (by omega)]; exact or
  refine ⟨_, _, by
    conv => lhs; simp [opsAt, opsIn, Try.f24, s0, s3, s5, h1, h3, or, e1, e3, e4, hdw, logL, loud, isE, drawChk, op_nilp, ha, ha2, hr, -getElem?_pos], ?_⟩
  refine ⟨⟨by simp [s0], by simp [s3], by simp [A.s4], by simp [s5], by simp [A.s6], ?_, ⟨_, ?_, S1, L1, Z1, rfl, gS1, gL1, gZ1⟩, ?_, ⟨_, _, _, _, _, gs0 (by simpa using ha2) _⟩, ?_, ra, A.kp.1, fun i hi hne => ?_⟩, A', gs0 (by simpa using ha2) _, gA⟩
  · rw [List.getElem?_set_ne (by omega), List.getElem?_set_ne (by omega)]; exact or
  · rw [List.getElem?_set_ne (by omega), gs0 ha]
  · rw [List.getElem?_set_ne (by omega), List.getElem?_set_ne (by omega)]; exact A.o1
  · rw [List.getElem?_set_ne (by omega), List.getElem?_set_ne (by omega)]; exact A.o3
  · rw [List.getElem?_set_ne (by omega), List.getElem?_set_ne (by omega)]; exact A.kp.2 i hi hne
end
end Go.Proofs.YtlpadffinfijgaaW.Rg
set_option linter.unusedVariables false
set_option linter.unusedSimpArgs false
set_option maxRecDepth 10000
namespace Go.Proofs.YtlpadffinfijgaaW.Rg
open Go.Proofs.YtlpadffinfijgaaW.Vm Go.Proofs.YtlpadffinfijgaaW.Md
open Go Go.Proofs
section
variable {p : Option (List Fu)} {h0 H : List Ob} {r a l u : Nat} {f : Fr} {σ : Nat → D} {c : Ac} {A' : Option (List Vl)}
/-- the act lies there -/
def Act24 (a : Nat) (H : List Ob) (c : Ac) (A' : Option (List Vl)) : Prop := H[a + 2]? = some ⟨0, 5, [encAc c (encL 2 encV A')], 0⟩ ∧ A'.getD [] = c.args
theorem r5_ok (A : At24 p h0 r a f l u σ H) (hA : Act24 a H c A') :
    ∃ σ', W Try.prog cfg (.region 5 (opsAt Try.f24 5) false) ⟨σ, H, 56⟩ = some (.normal, ⟨σ', H, 56⟩) ∧ At24 p h0 r a f l u σ' H ∧ σ' 21 = I c.kind := by
  have s5 := A.s5; have h := hA.1
  refine ⟨_, by
    conv => lhs; simp [opsAt, opsIn, Try.f24, s5, h, -getElem?_pos], ?_, ?_⟩
  · exact ⟨by simp [A.s0], by simp [A.s3], by simp [A.s4], by simp [s5], by simp [A.s6], A.or, A.oa, A.o1, A.o2, A.o3, A.ra, A.kp⟩
  · simp
theorem r7_ok (A : At24 p h0 r a f l u σ H) (hA : Act24 a H c A') {ch : Fr} (hnew : ∃ d b, fnc Try.prog cfg R 22 [encProg p, I c.fn, encL 2 encV A', I c.seed] = some (.tup [d, .bool b]) ∧ IsF d ch) :
    ∃ σ' d, W Try.prog cfg (.region 7 (opsAt Try.f24 7) true) ⟨σ, H, 56⟩ = some (.normal, ⟨σ', H ++ [⟨0, 16, [d], 0⟩], 56⟩) ∧ IsF d ch ∧ At24 p h0 r a f l u σ' (H ++ [⟨0, 16, [d], 0⟩]) ∧ Act24 a (H ++ [⟨0, 16, [d], 0⟩]) c A' ∧ σ' 7 = .ptr H.length 0 0 0 := by
  obtain ⟨d, b, e1, i1⟩ := hnew
  have i0 := i1
  obtain ⟨S1, L1, Z1, rfl, gS1, gL1, gZ1⟩ := i1
  have s0 := A.s0; have s3 := A.s3; have s5 := A.s5; have ra := A.ra; have or := A.or; have al := A.al; have h := hA.1
  have hd := dr24_7
  simp [opsAt, opsIn, Try.f24] at hd
  have hdw := Wdraw hd
  clear hd
  have ha2 : a + 2 < H.length := by omega
  have hr : r < H.length := by omega
  refine ⟨_, _, by
    conv => lhs; simp [opsAt, opsIn, Try.f24, s0, s3, s5, h, or, e1, hdw, logL, loud, isE, drawChk, op_nilp, ha2, hr, -getElem?_pos], i0, ?_, ?_, ?_⟩
  · obtain ⟨d, k1, k2⟩ := A.oa
    obtain ⟨x, y, z, w, v, k3⟩ := A.o2
    exact ⟨by simp [s0], by simp [s3], by simp [A.s4], by simp [s5], by simp [A.s6], by rw [get_lt hr]; exact or, ⟨d, by rw [get_lt (hlt k1)]; exact k1, k2⟩, by rw [get_lt (hlt A.o1)]; exact A.o1, ⟨x, y, z, w, v, by rw [get_lt (hlt k3)]; exact k3⟩,
      by rw [get_lt (hlt A.o3)]; exact A.o3, ra, A.kp.1, fun i hi hne => by rw [get_lt (by omega)]; exact A.kp.2 i hi hne⟩
  · exact ⟨by rw [get_lt (hlt h)]; exact h, hA.2⟩
  · simp
theorem r8_ok (A : At24 p h0 r a f l u σ H) (hA : Act24 a H c A') {b : Nat} (s7 : σ 7 = .ptr b 0 0 0) {dc : D} {ch : Fr} (hb : H[b]? = some ⟨0, 16, [dc], 0⟩) (hch : IsF dc ch) (hab : a + 3 < b) {o : Ou} {m u' : Nat} {H3 : List Ob}
    (hrun : body Try.prog R 24 [.ptr r 0 0 0, dc] H = some (encO o, H3)) (hk : Kp H H3 r) (hr3 : H3[r]? = some (oRn p m u')) {g : Fr}
    (hgive : ∀ d, IsF d f → ∃ d' b, fnc Try.prog cfg R 39 [d, I c.slot, encO o] = some (.tup [d', .bool b]) ∧ IsF d' g) :
    ∃ σ' H', W Try.prog cfg (.region 8 (opsAt Try.f24 8) true) ⟨σ, H, 56⟩ = some (.normal, ⟨σ', H', 56⟩) ∧ At24 p h0 r a g m u' σ' H' := by
  obtain ⟨df, k1, k2⟩ := A.oa
  obtain ⟨d', bb, e1, i1⟩ := hgive df k2
  obtain ⟨S, L, Z, rfl, gS, gL, gZ⟩ := k2
  obtain ⟨Sc, Lc, Zc, rfl, gSc, gLc, gZc⟩ := hch
  obtain ⟨S1, L1, Z1, rfl, gS1, gL1, gZ1⟩ := i1
  obtain ⟨x, y, z, w, v, k3⟩ := A.o2
  have s0 := A.s0; have s3 := A.s3; have s5 := A.s5; have ra := A.ra; have al := A.al; have h := hA.1
  have hd := dr24_8
  simp [opsAt, opsIn, Try.f24] at hd
  have hdw := Wdraw hd
  clear hd
  have a1 := hk.2 a (by omega) (by omega)
  have a2 := hk.2 (a + 2) (by omega) (by omega)
  have a3 := hk.2 b (hlt hb) (by omega)
  rw [k1] at a1; rw [h] at a2; rw [hb] at a3
  have hl3 := hk.1
  have ha3 : a < H3.length := by omega
  refine ⟨_, _, by
    conv => lhs; simp [opsAt, opsIn, Try.f24, s0, s3, s5, s7, k1, h, hb, hrun, a1, a2, a3, e1, hdw, logL, loud, isE, drawChk, ha3, gs0 ha3, -getElem?_pos], ?_⟩
  refine ⟨by simp [s0], by simp [s3], by simp [A.s4], by simp [s5], by simp [A.s6], ?_, ⟨_, gs0 ha3 _, S1, L1, Z1, rfl, gS1, gL1, gZ1⟩, ?_, ⟨x, y, z, w, v, ?_⟩, ?_, ra, A.kp.1, fun i hi hne => ?_⟩
  · rw [List.getElem?_set_ne (by omega)]; exact hr3
  · rw [List.getElem?_set_ne (by omega), hk.2 _ (by omega) (by omega)]; exact A.o1
  · rw [List.getElem?_set_ne (by omega), hk.2 _ (by omega) (by omega)]; exact k3
  · rw [List.getElem?_set_ne (by omega), hk.2 _ (by omega) (by omega)]; exact A.o3
  · rw [List.getElem?_set_ne (by omega), hk.2 _ (by omega) (by omega)]; exact A.kp.2 i hi hne
theorem r10_ok (A : At24 p h0 r a f l u σ H) {o : Ou} (hfin : ∀ d, IsF d f → ∃ b, fnc Try.prog cfg R 40 [d] = some (.tup [encO o, .bool b])) :
    ∃ σ' H', W Try.prog cfg (.seq (.region 10 (opsAt Try.f24 10) false) (.seq (.region 11 (opsAt Try.f24 11) false) .ret)) ⟨σ, H, 56⟩ = some (.ret, ⟨σ', H', 56⟩) ∧ σ' 4 = .ptr (a + 1) 0 0 0 ∧ H'[a + 1]? = some ⟨0, 3, [encO o], 0⟩ ∧
      Kp h0 H' r ∧ H'[r]? = some (oRn p l u) := by
  obtain ⟨df, k1, k2⟩ := A.oa
  obtain ⟨bb, e1⟩ := hfin df k2
  obtain ⟨S, L, Z, rfl, gS, gL, gZ⟩ := k2
  have s3 := A.s3; have s4 := A.s4; have s6 := A.s6; have ra := A.ra; have al := A.al; have o1 := A.o1; have o3 := A.o3
  have h1 : a + 1 < H.length := by omega
  have e2 : ∀ o : Ob, (H.set (a + 3) o)[a + 1]? = some z3 := fun o => by rw [List.getElem?_set_ne (by omega)]; exact o1
  refine ⟨_, _, by
    conv => lhs; simp [opsAt, opsIn, Try.f24, s3, s4, s6, k1, o1, o3, e1, e2, gs0 al, al, h1, -getElem?_pos], by simp [s4], gs0 (by simpa using h1) _, ⟨by have := A.kp.1; simp; omega, fun i hi hne => ?_⟩, ?_⟩
  · have := A.kp.1
    rw [List.getElem?_set_ne (by omega), List.getElem?_set_ne (by omega)]; exact A.kp.2 i (by omega) hne
  · rw [List.getElem?_set_ne (by omega), List.getElem?_set_ne (by omega)]; exact A.or
end
end Go.Proofs.YtlpadffinfijgaaW.Rg
set_option linter.unusedVariables false
set_option linter.unusedSimpArgs false
namespace Go.Proofs.YtlpadffinfijgaaW.Rg
open Go.Proofs.YtlpadffinfijgaaW.Vm Go.Proofs.YtlpadffinfijgaaW.Md
open Go Go.Proofs
/-- an end that may be told: a value, or a trap that is none of want of values or places -/
def OuOk (p : List Fu) (o : Ou) : Prop := o.v.may = true ∧ (o.trap = 0 ∨ (o.v = v0 ∧ (o.trap = 1 ∨ o.trap = 2 ∨ ∃ x ∈ p, ∃ y ∈ x.c, y.op = 16 ∧ y.a = o.trap)))
theorem ouok0 (p : List Fu) : OuOk p o0 := ⟨by decide, .inl rfl⟩
structure Vw (p : List Fu) (f : Fr) : Prop where
  st : ∀ v ∈ f.stack, v.may = true
  lo : ∀ v ∈ f.locals, v.may = true
  so : ∀ s ∈ f.slots, s.state = 2 → OuOk p s.out
  sd : isS f.seed = true
theorem ofG_may (a b : Int) : (ofG a b).may = true := by
  unfold ofG Vl.may
  simp only [Bool.and_eq_true, decide_eq_true_eq]
  omega
theorem v0_may : v0.may = true := by decide
theorem drawV_may (s k : Int) : (drawV s k).may = true := by
  unfold drawV drawI
  split
  · unfold Vl.may
    simp only [Bool.and_eq_true, decide_eq_true_eq]
    omega
  · decide
theorem childS (s k : Int) : isS (childI s k) = true := by
  unfold childI
  split
  · unfold isS
    have := child_lt s.toNat k.toNat
    exact decide_eq_true (by omega)
  · decide
section
variable {p : List Fu} {f : Fr}
theorem Vw.top (V : Vw p f) (n : Nat) : ∀ v ∈ topV f n, v.may = true := fun v hv => V.st v (List.mem_of_mem_drop hv)
theorem Vw.a (V : Vw p f) (n i : Nat) : (((topV f n)[i]?).getD v0).may = true := by
  cases h : (topV f n)[i]? with
  | none => exact v0_may
  | some v => exact V.top n v (List.mem_of_getElem? h)
theorem Vw.push (V : Vw p f) {l : List Vl} (hl : ∀ v ∈ l, v.may = true) (n : Nat) : Vw p (nextF (pushF (popF f n) l)) :=
  ⟨fun v hv => by
    simp only [nextF, pushF, popF, List.mem_append] at hv
    rcases hv with hv | hv
    · exact V.st v (List.mem_of_mem_take hv)
    · exact hl v hv, V.lo, V.so, V.sd⟩
theorem Vw.push0 (V : Vw p f) {l : List Vl} (hl : ∀ v ∈ l, v.may = true) : Vw p (nextF (pushF f l)) :=
  ⟨fun v hv => by
    simp only [nextF, pushF, List.mem_append] at hv
    rcases hv with hv | hv
    · exact V.st v hv
    · exact hl v hv, V.lo, V.so, V.sd⟩
theorem Vw.end_ (V : Vw p f) (o : Ou) : Vw p (endF f o).1 := ⟨V.st, V.lo, V.so, V.sd⟩
theorem Vw.pop (V : Vw p f) (n : Nat) : Vw p (popF f n) := ⟨fun v hv => V.st v (List.mem_of_mem_take hv), V.lo, V.so, V.sd⟩
theorem Vw.slot (V : Vw p f) (i : Int) {s : Slt} (hs : s.state = 2 → OuOk p s.out) : Vw p (setSlot f i s) := ⟨V.st, V.lo, set_sl V.so hs, V.sd⟩
theorem Vw.at_ (V : Vw p f) (i : Int) : (slotAt f i).state = 2 → OuOk p (slotAt f i).out := by
  unfold slotAt
  cases h : f.slots[i.toNat]? with
  | none => intro h; cases h
  | some s => exact V.so s (List.mem_of_getElem? h)
/-- what an end may be, if a want is not shut out -/
def OuW (p : List Fu) (o : Ou) : Prop := OuOk p o ∨ (o.v = v0 ∧ (o.trap = 3 ∨ o.trap = 4))
/-- what an instruction leaves -/
def Vr (p : List Fu) (r : Fr × Ac) : Prop := Vw p r.1 ∧ (∀ v ∈ r.2.args, v.may = true) ∧ (r.2.kind = 4 → OuW p r.1.out)
theorem vr_trap (V : Vw p f) {c : Int} (hc : OuW p ⟨c, v0⟩) : Vr p (trapF f c) := ⟨V.end_ _, fun v hv => (by simp [trapF, endF, acN] at hv), fun _ => hc⟩
theorem vr_go {g : Fr} (V : Vw p g) : Vr p (g, acN 1) := ⟨V, fun v hv => (by simp [acN] at hv), fun h => absurd h (by simp [acN])⟩
theorem one_mem {q v : Vl} (hq : q.may = true) (hv : v ∈ [q]) : v.may = true := by rw [List.mem_singleton.1 hv]; exact hq
theorem vw_run (V : Vw p f) {x : Instr} (hx : ∃ y ∈ p, x ∈ y.c) : Vr p (runX p f x) := by
  unfold runX
  split
  · rename_i h16
    obtain ⟨y, hy, hxy⟩ := hx
    exact vr_trap V (.inl ⟨v0_may, .inr ⟨rfl, .inr (.inr ⟨y, hy, x, hxy, h16, rfl⟩)⟩⟩)
  split
  · exact ⟨(V.pop 1).end_ _, fun v hv => (by simp [endF, acN] at hv), fun _ => .inl ⟨V.a 1 0, .inl rfl⟩⟩
  split
  · unfold spawnF
    split
    · exact vr_trap V (.inl ⟨v0_may, .inr ⟨rfl, .inr (.inl rfl)⟩⟩)
    · refine ⟨⟨fun v hv => V.st v (List.mem_of_mem_take hv), V.lo, set_sl V.so (by simp), V.sd⟩, V.top _, fun h => absurd h (by simp)⟩
  split
  · unfold joinF
    split
    · exact ⟨⟨V.st, V.lo, V.so, V.sd⟩, fun v hv => (by simp [acN] at hv), fun h => absurd h (by simp [acN])⟩
    · split
      · exact vr_trap V (.inl ⟨v0_may, .inr ⟨rfl, .inr (.inl rfl)⟩⟩)
      · rename_i h1 h2
        have h2 : (slotAt f x.a).state = 2 := by
          rcases Decidable.em ((slotAt f x.a).state = 2) with h | h
          · exact h
          · exact absurd h h2
        have ho := V.at_ x.a h2
        split
        · rename_i h3
          refine vr_trap (V.slot x.a (by simp [s0])) (.inl ⟨v0_may, .inr ⟨rfl, ?_⟩⟩)
          rcases ho.2 with h | h
          · exact absurd h h3
          · exact h.2
        · exact vr_go ((V.slot x.a (by simp [s0])).push0 fun v hv => one_mem ho.1 hv)
  split
  · unfold twoF
    split
    · split
      · exact vr_trap V (.inl ⟨v0_may, .inr ⟨rfl, .inl rfl⟩⟩)
      · rename_i q hq
        refine vr_go (V.push (fun v hv => one_mem ?_ hv) 2)
        unfold divG at hq
        split at hq
        · cases hq
        · cases hq; exact ofG_may _ _
    · refine vr_go (V.push (fun v hv => one_mem ?_ hv) 2)
      split
      · exact ofG_may _ _
      · split <;> exact ofG_may _ _
  · unfold plainF
    split
    · exact vr_go (V.push0 fun v hv => one_mem (ofG_may _ _) hv)
    split
    · refine vr_go (V.push0 fun v hv => one_mem ?_ hv)
      cases h : f.locals[x.a.toNat]? with
      | none => exact v0_may
      | some v => exact V.lo v (List.mem_of_getElem? h)
    split
    · refine vr_go ⟨fun v hv => V.st v (List.mem_of_mem_take hv), fun v hv => ?_, V.so, V.sd⟩
      simp only [nextF, popF] at hv
      rcases List.mem_or_eq_of_mem_set hv with h | h
      · exact V.lo v h
      · rw [h]; exact V.a 1 0
    split
    · exact vr_go (V.push (fun v hv => one_mem (ofG_may _ _) hv) 1)
    split
    · refine vr_go (V.push (fun v hv => ?_) 1)
      have : v = a0 f 1 := by simpa using hv
      rw [this]; exact V.a 1 0
    split
    · exact vr_go ⟨(V.pop 1).st, V.lo, V.so, V.sd⟩
    split
    · exact vr_go ⟨V.st, V.lo, V.so, V.sd⟩
    split
    · split
      · exact vr_go ⟨(V.pop 1).st, V.lo, V.so, V.sd⟩
      · exact vr_go ⟨(V.pop 1).st, V.lo, V.so, V.sd⟩
    · refine vr_go ⟨fun v hv => ?_, V.lo, V.so, V.sd⟩
      simp only [nextF, pushF, List.mem_append] at hv
      rcases hv with hv | hv
      · exact V.st v hv
      · exact one_mem (drawV_may _ _) hv
theorem vw_do (V : Vw p f) : Vr p (doF p f) := by
  unfold doF
  split
  · exact ⟨V, fun v hv => (by simp [acN] at hv), fun h => absurd h (by simp [acN])⟩
  · split
    · exact vr_trap V (.inr ⟨rfl, .inr rfl⟩)
    · rename_i x hx
      split
      · refine vw_run V ?_
        unfold instrAt at hx
        split at hx
        · split at hx
          · rename_i y hy
            split at hx
            · cases hx
              unfold codeOf at hy
              cases hq : p[f.fn.toNat]? with
              | none => rw [hq] at hy; simp at hy
              | some g => rw [hq] at hy; exact ⟨g, List.mem_of_getElem? hq, List.mem_of_getElem? hy⟩
            · cases hx
          · cases hx
        · cases hx
      · exact vr_trap V (.inr ⟨rfl, .inl rfl⟩)
end
/-- a frame that may be run -/
structure Sf (p : List Fu) (f : Fr) : Prop where
  vw : Vw p f
  ex : ∃ (n : Nat) (x : Fu) (seen : List Ou), p[n]? = some x ∧ SafeI n x (depthsOf p x) seen f ∧ ∀ o ∈ seen, OuOk p o
theorem ou_no {p : List Fu} (hg : good p = true) {o : Ou} (h : OuOk p o) : ¬ (o.trap = 3 ∨ o.trap = 4) := by
  rcases h.2 with h | ⟨_, h | h | ⟨x, hx, y, hy, h1, h2⟩⟩
  · omega
  · omega
  · omega
  · have hi := imay_iff.1 (fmay_all (mayP_f (good_iff.1 hg).1 hx) y hy)
    have : 16 ≤ y.a := by have := hi.2.2.1; unfold leastA at this; rw [if_pos h1] at this; exact this
    omega
theorem new_ok {p : List Fu} (hg : good p = true) {n : Nat} {x : Fu} (hx : p[n]? = some x) {args : List Vl} (hl : (args.length : Int) = x.arity) (ha : ∀ v ∈ args, v.may = true) {s : Int} (hs : isS s = true) :
    ∃ f, newF p n args s = some f ∧ Sf p f := by
  have hm := List.mem_of_getElem? hx
  obtain ⟨_, F⟩ := good_fin hg hm
  obtain ⟨hmay, hgf⟩ := good_iff.1 hg
  obtain ⟨har, _, _⟩ := hgf x hm
  have hfm := mayP_f hmay hm
  have hh := fmay_head hfm
  have hlc := fmay_len hfm
  have hn : n < p.length := (List.getElem?_eq_some_iff.1 hx).1
  have hlen : (depthsOf p x).length = x.c.length := by rw [F.len, shapes_len]
  have hal : args.all Vl.may = true := List.all_eq_true.2 ha
  refine ⟨⟨n, 0, [], args ++ List.replicate (x.locals.toNat - args.length) v0, List.replicate x.slots.toNat s0, s, 0, 0, 0, 0, o0, noK, 0⟩, ?_, ⟨fun v hv => (by simp at hv), fun v hv => ?_, fun t ht h => ?_, hs⟩, n, x, [], hx,
    ⟨rfl, rfl, ⟨Int.le_refl _, by rw [hlen]; show (0 : Int) < _; omega⟩, by rw [show Int.toNat 0 = 0 from rfl, F.d0]; rfl, by simp; omega, by simp; omega, fun t ht => .inl (by rw [(List.mem_replicate.1 ht).2, s0])⟩, by simp⟩
  · unfold newF
    rw [if_pos ⟨hmay, by omega, by omega, hs⟩, Int.toNat_natCast, hx]
    simp only
    rw [if_pos ⟨har, hl, hal⟩]
  · rcases List.mem_append.1 hv with h | h
    · exact ha v h
    · rw [(List.mem_replicate.1 h).2]; exact v0_may
  · rw [(List.mem_replicate.1 ht).2] at h; cases h
/-- slots stay, or become empty, but of who spawns -/
theorem slots_run {p : List Fu} {f : Fr} {x : Instr} (h2 : (runX p f x).2.kind ≠ 2) : ∀ s ∈ (runX p f x).1.slots, s ∈ f.slots ∨ s = s0 := by
  have set0 : ∀ i : Nat, ∀ s ∈ f.slots.set i s0, s ∈ f.slots ∨ s = s0 := fun i s hs => List.mem_or_eq_of_mem_set hs
  revert h2
  unfold runX
  split
  · exact fun _ s hs => .inl hs
  split
  · exact fun _ s hs => .inl hs
  split
  · unfold spawnF
    split
    · exact fun _ s hs => .inl hs
    · exact fun h => absurd rfl h
  split
  · unfold joinF
    split
    · exact fun _ s hs => .inl hs
    · split
      · exact fun _ s hs => .inl hs
      · split
        · exact fun _ s hs => set0 _ s hs
        · exact fun _ s hs => set0 _ s hs
  split
  · unfold twoF
    (repeat' split) <;> exact fun _ s hs => .inl hs
  · unfold plainF
    refine fun _ => ?_
    (repeat' split) <;> exact fun s hs => .inl hs
theorem slots_do {p : List Fu} {f : Fr} (h2 : (doF p f).2.kind ≠ 2) : ∀ s ∈ (doF p f).1.slots, s ∈ f.slots ∨ s = s0 := by
  revert h2
  unfold doF
  split
  · exact fun _ s hs => .inl hs
  · split
    · exact fun _ s hs => .inl hs
    · split
      · exact fun h => slots_run h
      · exact fun _ s hs => .inl hs
/-- who spawns -/
theorem spawn_run {p : List Fu} {f : Fr} {x : Instr} (h2 : (runX p f x).2.kind = 2) : x.op = 13 ∧ (runX p f x).2 = ⟨2, x.a, x.b, childI f.seed f.spawned, topV f (offP p x).toNat⟩ := by
  revert h2
  unfold runX
  split
  · exact fun h => absurd h (by simp [trapF, endF, acN])
  split
  · exact fun h => absurd h (by simp [endF, acN])
  split
  · rename_i h13
    unfold spawnF
    split
    · exact fun h => absurd h (by simp [trapF, endF, acN])
    · exact fun _ => ⟨h13, rfl⟩
  split
  · unfold joinF
    (repeat' split) <;> exact fun h => absurd h (by simp [trapF, endF, acN])
  split
  · unfold twoF
    (repeat' split) <;> exact fun h => absurd h (by simp [trapF, endF, acN])
  · unfold plainF
    (repeat' split) <;> exact fun h => absurd h (by simp [acN])
theorem spawn_do {p : List Fu} {f : Fr} (h2 : (doF p f).2.kind = 2) : ∃ x, instrAt p f = some x ∧ roomX p f x = true ∧ x.op = 13 ∧ (doF p f).2 = ⟨2, x.a, x.b, childI f.seed f.spawned, topV f (offP p x).toNat⟩ := by
  revert h2
  unfold doF
  split
  · exact fun h => absurd h (by simp [acN])
  · split
    · exact fun h => absurd h (by simp [trapF, endF, acN])
    · rename_i x hx
      split
      · rename_i hr
        exact fun h => ⟨x, hx, hr, spawn_run h⟩
      · exact fun h => absurd h (by simp [trapF, endF, acN])
theorem vw_give {p : List Fu} {f : Fr} (V : Vw p f) (i : Int) {o : Ou} (ho : OuOk p o) : Vw p (giveF f i o).1 := by
  unfold giveF
  split
  · exact V
  · have V2 := V.slot i (s := ⟨2, noK, o⟩) fun _ => ho
    simp only
    split
    · exact ⟨V2.st, V2.lo, V2.so, V2.sd⟩
    · exact V2
/-- an instruction, done by a frame that may be run -/
theorem sf_do {p : List Fu} (hg : good p = true) {f : Fr} (S : Sf p f) :
    ((doF p f).2.kind = 4 ∧ (doF p f).1.state = 2 ∧ OuOk p (doF p f).1.out ∧ (∀ s ∈ (doF p f).1.slots, s.state ≠ 1) ∧ Vw p (doF p f).1) ∨ ((doF p f).2.kind = 1 ∧ Sf p (doF p f).1) ∨
    ((doF p f).2.kind = 2 ∧ (∃ ch, newF p (doF p f).2.fn (doF p f).2.args (doF p f).2.seed = some ch ∧ Sf p ch) ∧ ∀ o, OuOk p o → Sf p (giveF (doF p f).1 (doF p f).2.slot o).1) := by
  obtain ⟨n, x, seen, hx, I, hs⟩ := S.ex
  obtain ⟨V1, V2, V3⟩ := vw_do S.vw
  have hm := List.mem_of_getElem? hx
  have hsn : ∀ o, OuOk p o → ∀ t ∈ seen ++ [o], OuOk p t := fun o ho t ht => by
    rcases List.mem_append.1 ht with h | h
    · exact hs t h
    · rw [List.mem_singleton.1 h]; exact ho
  by_cases h2 : (doF p f).2.kind = 2
  · refine .inr (.inr ⟨h2, ?_, fun o ho => ?_⟩)
    · obtain ⟨y, hy, hr, h13, hc⟩ := spawn_do h2
      have hth : thereX p f y = true := by
        unfold instrAt at hy
        split at hy
        · split at hy
          · split at hy
            · rename_i ht; cases hy; exact ht
            · cases hy
          · cases hy
        · cases hy
      unfold thereX at hth
      rw [if_neg (by omega), if_neg (by omega), if_pos h13] at hth
      simp only [Bool.and_eq_true, decide_eq_true_eq] at hth
      have hi := imay_iff.1 hth.1
      have ha0 := imay_a hth.1
      obtain ⟨m, hm2⟩ : ∃ m : Nat, y.a = m := ⟨y.a.toNat, by omega⟩
      have hml : m < p.length := by omega
      have hq : p[m]? = some p[m] := List.getElem?_eq_getElem hml
      generalize p[m] = q at hq
      have hoff : offP p y = q.arity := by
        unfold offP
        rw [if_pos h13, hm2, Int.toNat_natCast, hq]; rfl
      unfold roomX at hr
      simp only [Bool.and_eq_true, decide_eq_true_eq] at hr
      rw [hc]
      have hlen : ((topV f (offP p y).toNat).length : Int) = q.arity := by
        unfold topV
        rw [List.length_drop]
        omega
      have := new_ok hg hq (args := topV f (offP p y).toNat) hlen (S.vw.top _) (childS f.seed f.spawned)
      rw [← hm2] at this
      exact this
    · have st := safe_step hg hx I o
      have e : stepF p f o = ((giveF (doF p f).1 (doF p f).2.slot o).1, 2) := by unfold stepF; rw [if_pos h2]
      rw [e] at st
      rcases st with ⟨h, _⟩ | ⟨_, h⟩
      · exact absurd h (by show ¬ ((2 : Int) = 4); decide)
      · exact ⟨vw_give V1 _ ho, n, x, seen ++ [o], hx, h, hsn o ho⟩
  · have st := safe_step hg hx I o0
    have e : stepF p f o0 = ((doF p f).1, (doF p f).2.kind) := by unfold stepF; rw [if_neg h2]
    rw [e] at st
    rcases st with ⟨h4, hst, h34⟩ | ⟨h, h3⟩
    · refine .inl ⟨h4, hst, ?_, fun s hs' => ?_, V1⟩
      · rcases V3 h4 with h | ⟨_, h⟩
        · exact h
        · obtain ⟨t, ht, htr⟩ := h34 h
          exact absurd (by rw [htr]; exact h) (ou_no hg (hs t ht))
      · rcases slots_do h2 s hs' with h | h
        · rcases I.sl s h with h | h <;> omega
        · rw [h]; decide
    · rcases h with h | h
      · exact .inr (.inl ⟨h, V1, n, x, seen ++ [o0], hx, h3, hsn o0 (ouok0 p)⟩)
      · exact absurd h h2
/-- how a frame that ended ends -/
theorem fin_ok {p : List Fu} {f : Fr} (V : Vw p f) (h2 : f.state = 2) (ho : OuOk p f.out) (hs : ∀ s ∈ f.slots, s.state ≠ 1) : (finF f).2 = true ∧ OuOk p (finF f).1 := by
  have hb : f.slots.any (fun s => s.state == 1) = false := by
    rw [List.any_eq_false]
    intro s h
    simpa using hs s h
  unfold finF
  rw [if_neg (by rw [hb]; simp [h2])]
  split
  · exact ⟨rfl, ho⟩
  · have : ∀ l : List Slt, (∀ s ∈ l, s.state = 2 → OuOk p s.out) → ∀ c, finT l = some c → OuOk p ⟨c, v0⟩ := by
      intro l
      induction l with
      | nil => intro _ c h; cases h
      | cons s l ih =>
        intro hl c h
        unfold finT at h
        split at h
        · rename_i hc
          cases h
          have := hl s (by simp) hc.1
          refine ⟨v0_may, .inr ⟨rfl, ?_⟩⟩
          rcases this.2 with h | h
          · exact absurd h hc.2
          · exact h.2
        · exact ih (fun t ht => hl t (by simp [ht])) c h
    split
    · rename_i c hc
      exact ⟨rfl, this _ V.so c hc⟩
    · exact ⟨rfl, ho⟩
/-- a frame is run to its end: how it ends, and the fuel that is left -/
def runS (p : List Fu) : Nat → Fr → Nat → Option (Ou × Nat)
  | 0, _, _ => none
  | g + 1, f, n => if n = 0 then none else
    if (doF p f).2.kind = 2 then
      match runS p g ((newF p (doF p f).2.fn (doF p f).2.args (doF p f).2.seed).getD fr0) (n - 1) with
      | none => none
      | some (o, m) => runS p g (giveF (doF p f).1 (doF p f).2.slot o).1 m
    else if (doF p f).2.kind = 1 then runS p g (doF p f).1 (n - 1)
    else some ((finF (doF p f).1).1, n - 1)
theorem runS_ok {p : List Fu} (hg : good p = true) : ∀ (g : Nat) (f : Fr) (n : Nat) (o : Ou) (m : Nat), Sf p f → runS p g f n = some (o, m) → OuOk p o ∧ m < n
  | 0, f, n, o, m, S, h => by cases h
  | g + 1, f, n, o, m, S, h => by
    unfold runS at h
    split at h
    · cases h
    · rename_i hn
      rcases sf_do hg S with ⟨h4, h5, h6, h7, h8⟩ | ⟨h1, h5⟩ | ⟨h2, ⟨ch, hc, hS⟩, h5⟩
      · rw [if_neg (by omega), if_neg (by omega)] at h
        cases h
        exact ⟨(fin_ok h8 h5 h6 h7).2, by omega⟩
      · rw [if_neg (by omega), if_pos h1] at h
        obtain ⟨k1, k2⟩ := runS_ok hg g _ _ _ _ h5 h
        exact ⟨k1, by omega⟩
      · rw [if_pos h2, hc, Option.getD_some] at h
        cases hr : runS p g ch (n - 1) with
        | none => rw [hr] at h; cases h
        | some q =>
          obtain ⟨o2, m2⟩ := q
          rw [hr] at h
          obtain ⟨k1, k2⟩ := runS_ok hg g _ _ _ _ hS hr
          obtain ⟨k3, k4⟩ := runS_ok hg g _ _ _ _ (h5 o2 k1) h
          exact ⟨k3, by omega⟩
/-- more gas than fuel is no matter -/
theorem runS_gas {p : List Fu} (hg : good p = true) : ∀ (g k : Nat) (f : Fr) (n : Nat), Sf p f → n < g → n < k → runS p g f n = runS p k f n
  | 0, k, f, n, S, h1, h2 => by omega
  | g + 1, 0, f, n, S, h1, h2 => by omega
  | g + 1, k + 1, f, n, S, h1, h2 => by
    unfold runS
    by_cases hn : n = 0
    · rw [if_pos hn, if_pos hn]
    rw [if_neg hn, if_neg hn]
    rcases sf_do hg S with ⟨h4, _⟩ | ⟨h1, h5⟩ | ⟨h2', ⟨ch, hc, hS⟩, h5⟩
    · rw [if_neg (by omega), if_neg (by omega), if_neg (by omega), if_neg (by omega)]
    · rw [if_neg (by omega), if_pos h1, if_neg (by omega), if_pos h1]
      exact runS_gas hg g k _ _ h5 (by omega) (by omega)
    · rw [if_pos h2', if_pos h2', hc, Option.getD_some, runS_gas hg g k ch (n - 1) hS (by omega) (by omega)]
      cases hr : runS p k ch (n - 1) with
      | none => rfl
      | some q =>
        obtain ⟨o2, m2⟩ := q
        obtain ⟨k1, k2⟩ := runS_ok hg k _ _ _ _ hS hr
        exact runS_gas hg g k _ _ (h5 o2 k1) (by omega) (by omega)
end Go.Proofs.YtlpadffinfijgaaW.Rg
set_option linter.unusedVariables false
set_option linter.unusedSimpArgs false
set_option maxRecDepth 10000
namespace Go.Proofs.YtlpadffinfijgaaW.Rg
open Go.Proofs.YtlpadffinfijgaaW.Vm Go.Proofs.YtlpadffinfijgaaW.Md
open Go Go.Proofs
/-- what is done in a round -/
noncomputable def KR : Code := sq2 (sq2 (sq2 (scopeAt Try.f24)))
@[reducible] noncomputable def rgn (k : Nat) (d : Bool) : Code := .region k (opsAt Try.f24 k) d
@[reducible] noncomputable def K10 : Code := .seq (rgn 10 false) (.seq (rgn 11 false) .ret)
@[reducible] noncomputable def K6 : Code := .seq (rgn 6 false) (.cond (.tmp 22) (.seq (rgn 7 true) (.seq (rgn 8 true) (.goto 0))) (.seq (rgn 9 false) (.cond (.tmp 48) (.goto 0) .skip)))
@[reducible] noncomputable def K5 : Code := .seq (.seq (rgn 5 false) (.block 0 K6)) K10
theorem KR_eq : KR = .seq (rgn 3 false) (.seq (rgn 4 true) K5) := rfl
theorem sc_eq : scopeAt Try.f24 = .seq (rgn 1 false) (.seq (rgn 2 false) (.seq (.label 0) KR)) := rfl
theorem rest_eq : findLabel (scopeAt Try.f24) 0 = some (.seq .skip KR) := rfl
theorem sqG {P : Program} {cfg : Cfg} (b l st) : seqK P cfg b (.goto l, st) = some (.goto l, st) := rfl
section
variable {p : Option (List Fu)} {h0 H : List Ob} {r a l u : Nat} {f : Fr} {σ : Nat → D} {c : Ac} {A' : Option (List Vl)}
theorem good_bnd {p : List Fu} (hg : good p = true) : (∀ g ∈ p, g.c.length < 2 ^ 62) ∧ p.length < 2 ^ 60 := by
  have hm := (good_iff.1 hg).1
  refine ⟨fun g h => by have := fmay_len (mayP_f hm h); omega, ?_⟩
  unfold mayP at hm
  simp only [Bool.and_eq_true, decide_eq_true_eq] at hm
  omega
theorem sf_len {p : List Fu} (hg : good p = true) (S : Sf p f) : f.stack.length ≤ 16 ∧ f.locals.length ≤ 16 ∧ f.slots.length ≤ 8 := by
  obtain ⟨n, x, seen, hx, I, _⟩ := S.ex
  exact safe_len hg hx I
/-- counted, and done -/
theorem it_do (hg : good (p.getD []) = true) (S : Sf (p.getD []) f) (A : At24 p h0 r a f (l + 1) u σ H) (hl : l < 2 ^ 60) (hu : u < 2 ^ 60) :
    ∃ σ' H' A', W Try.prog cfg KR ⟨σ, H, 56⟩ = W Try.prog cfg K5 ⟨σ', H', 56⟩ ∧ At24 p h0 r a (doF (p.getD []) f).1 l (u + 1) σ' H' ∧ Act24 a H' (doF (p.getD []) f).2 A' ∧
      ∀ d h', PanTo Try.prog K5 [] ⟨σ', H', 56⟩ d [] h' → PanTo Try.prog KR [] ⟨σ, H, 56⟩ d [] h' := by
  obtain ⟨b1, b2⟩ := good_bnd hg
  obtain ⟨l1, l2, l3⟩ := sf_len hg S
  obtain ⟨σ1, H1, e1, A1⟩ := r3_ok A hl hu
  obtain ⟨σ2, H2, e2, A2, A', hA⟩ := r4_ok A1 (g := (doF (p.getD []) f).1) (c := (doF (p.getD []) f).2) fun d hd => Do_spec p f d hd (by omega) (by omega) (by omega) b1 (by omega)
  refine ⟨σ2, H2, A', ?_, A2, hA, fun d h' hp => ?_⟩
  · rw [KR_eq, Wseq, e1, Option.bind_some, seqK_normal, Wseq, e2, Option.bind_some, seqK_normal]
  · rw [KR_eq]
    exact panTo_seq fitW e1 (panTo_seq fitW e2 hp)
theorem it_go (A : At24 p h0 r a f l u σ H) (hA : Act24 a H c A') (hk : c.kind = 1) : ∃ σ', W Try.prog cfg K5 ⟨σ, H, 56⟩ = some (.goto 0, ⟨σ', H, 56⟩) ∧ At24 p h0 r a f l u σ' H := by
  obtain ⟨σ1, e1, A1, s21⟩ := r5_ok A hA
  rw [hk] at s21
  refine ⟨_, by
    conv => lhs; simp only [Wseq, e1, Option.bind_some, seqK_normal]; simp [opsAt, opsIn, Try.f24, s21, blockK_goto, W_goto, sqG], ?_⟩
  exact ⟨by simp [A1.s0], by simp [A1.s3], by simp [A1.s4], by simp [A1.s5], by simp [A1.s6], A1.or, A1.oa, A1.o1, A1.o2, A1.o3, A1.ra, A1.kp⟩
theorem it_end (A : At24 p h0 r a f l u σ H) (hA : Act24 a H c A') (hk : c.kind = 4) {o : Ou} (hfin : ∀ d, IsF d f → ∃ b, fnc Try.prog cfg R 40 [d] = some (.tup [encO o, .bool b])) :
    ∃ σ' H', W Try.prog cfg K5 ⟨σ, H, 56⟩ = some (.ret, ⟨σ', H', 56⟩) ∧ σ' 4 = .ptr (a + 1) 0 0 0 ∧ H'[a + 1]? = some ⟨0, 3, [encO o], 0⟩ ∧ Kp h0 H' r ∧ H'[r]? = some (oRn p l u) := by
  obtain ⟨σ1, e1, A1, s21⟩ := r5_ok A hA
  rw [hk] at s21
  have e2 : ∃ σ2, W Try.prog cfg (.seq (rgn 5 false) (.block 0 K6)) ⟨σ, H, 56⟩ = some (.normal, ⟨σ2, H, 56⟩) ∧ At24 p h0 r a f l u σ2 H := by
    refine ⟨_, by
      conv => lhs; simp only [Wseq, e1, Option.bind_some, seqK_normal]; simp [opsAt, opsIn, Try.f24, s21], ?_⟩
    exact ⟨by simp [A1.s0], by simp [A1.s3], by simp [A1.s4], by simp [A1.s5], by simp [A1.s6], A1.or, A1.oa, A1.o1, A1.o2, A1.o3, A1.ra, A1.kp⟩
  obtain ⟨σ2, e2, A2⟩ := e2
  obtain ⟨σ3, H3, e3, k⟩ := r10_ok A2 hfin
  refine ⟨σ3, H3, ?_, k⟩
  rw [show K5 = .seq (.seq (rgn 5 false) (.block 0 K6)) K10 from rfl, Wseq, e2, Option.bind_some, seqK_normal]
  exact e3
/-- a child is made -/
theorem it_new (A : At24 p h0 r a f l u σ H) (hA : Act24 a H c A') (hk : c.kind = 2) {ch : Fr} (hnew : ∃ d b, fnc Try.prog cfg R 22 [encProg p, I c.fn, encL 2 encV A', I c.seed] = some (.tup [d, .bool b]) ∧ IsF d ch) :
    ∃ σ' d, W Try.prog cfg K5 ⟨σ, H, 56⟩ = (((W Try.prog cfg (.seq (rgn 8 true) (.goto 0)) ⟨σ', H ++ [⟨0, 16, [d], 0⟩], 56⟩).bind (blockK 0)).bind (seqK Try.prog cfg K10)) ∧ IsF d ch ∧ At24 p h0 r a f l u σ' (H ++ [⟨0, 16, [d], 0⟩]) ∧ Act24 a (H ++ [⟨0, 16, [d], 0⟩]) c A' ∧
      σ' 7 = .ptr H.length 0 0 0 ∧ ∀ d2 h', PanTo Try.prog (rgn 8 true) [] ⟨σ', H ++ [⟨0, 16, [d], 0⟩], 56⟩ d2 [] h' → PanTo Try.prog K5 [] ⟨σ, H, 56⟩ d2 [] h' := by
  obtain ⟨σ1, e1, A1, s21⟩ := r5_ok A hA
  rw [hk] at s21
  have e2 : ∃ σ2, W Try.prog cfg (rgn 6 false) ⟨σ1, H, 56⟩ = some (.normal, ⟨σ2, H, 56⟩) ∧ σ2 22 = .bool true ∧ At24 p h0 r a f l u σ2 H := by
    refine ⟨_, by
      conv => lhs; simp [opsAt, opsIn, Try.f24, s21], by simp, ?_⟩
    exact ⟨by simp [A1.s0], by simp [A1.s3], by simp [A1.s4], by simp [A1.s5], by simp [A1.s6], A1.or, A1.oa, A1.o1, A1.o2, A1.o3, A1.ra, A1.kp⟩
  obtain ⟨σ2, e2, s22, A2⟩ := e2
  obtain ⟨σ3, d, e3, i3, A3, hA3, s7⟩ := r7_ok A2 hA hnew
  refine ⟨σ3, d, ?_, i3, A3, hA3, s7, fun d2 h' hp => ?_⟩
  · rw [show K5 = .seq (.seq (rgn 5 false) (.block 0 K6)) K10 from rfl, Wseq, Wseq, e1, Option.bind_some, seqK_normal, Wblock, show K6 = .seq (rgn 6 false) (.cond (.tmp 22) (.seq (rgn 7 true) (.seq (rgn 8 true) (.goto 0))) (.seq (rgn 9 false) (.cond (.tmp 48) (.goto 0) .skip))) from rfl,
      Wseq, e2, Option.bind_some, seqK_normal, Wcond]
    simp only [ev, s22, Option.bind_some, condK_true]
    rw [Wseq, e3, Option.bind_some, seqK_normal]
  · refine panTo_left (panTo_seq fitW e1 (panTo_block (panTo_seq fitW e2 (panTo_cond (b := true) (by simp [ev, s22]) ?_))))
    exact panTo_seq fitW e3 (panTo_left hp)
/-- at the place that is gone back to -/
theorem sc_go (σ' : Nat → D) (H' : List Ob) {X : Type} (h : W Try.prog cfg KR ⟨σ, H, 56⟩ = some (.goto 0, ⟨σ', H', 56⟩)) : SC Try.prog cfg (scopeAt Try.f24) KR ⟨σ, H, 56⟩ = SC Try.prog cfg (scopeAt Try.f24) KR ⟨σ', H', 56⟩ := by
  rw [SC_eq, h, Option.bind_some, scopeK_goto _ _ _ rest_eq, SC_eq, Wseq, W_skip, Option.bind_some, seqK_normal, ← SC_eq]
theorem pan_go {σ' : Nat → D} {H' h' : List Ob} {d : D} (h : W Try.prog cfg KR ⟨σ, H, 56⟩ = some (.goto 0, ⟨σ', H', 56⟩)) (hp : PanS Try.prog KR (scopeAt Try.f24) [] ⟨σ', H', 56⟩ d [] h') :
    PanS Try.prog KR (scopeAt Try.f24) [] ⟨σ, H, 56⟩ d [] h' :=
  panS_goto fitW h rest_eq (panS_seq fitW (W_skip _) hp)
theorem start24 {d : D} (hd : IsF d f) (ho : h0[r]? = some (oRn p l u)) : ∃ σ H, (∀ x, SC Try.prog cfg (scopeAt Try.f24) KR ⟨σ, H, 56⟩ = some x → body Try.prog R 24 [.ptr r 0 0 0, d] h0 = (endK Try.prog Try.f24 x)) ∧ At24 p h0 r h0.length f l u σ H ∧
    ∀ d2 h', PanS Try.prog KR (scopeAt Try.f24) [] ⟨σ, H, 56⟩ d2 [] h' → CallGo Try.prog 24 [.ptr r 0 0 0, d] h0 (.pan d2) h' := by
  have hr := hlt ho
  have i0 := hd
  obtain ⟨S, L, Z, rfl, gS, gL, gZ⟩ := hd
  have e0 : ∃ σ1 H1, W Try.prog cfg (rgn 0 false) ⟨argsσ [.ptr r 0 0 0, frC f (encL 2 encV S) (encL 2 encV L) (encL 6 encSlt Z)], h0, 56⟩ = some (.normal, ⟨σ1, H1, 56⟩) ∧ σ1 0 = .ptr r 0 0 0 ∧ σ1 3 = .ptr h0.length 0 0 0 ∧ σ1 4 = .ptr (h0.length + 1) 0 0 0 ∧ H1 = h0 ++ [⟨0, 16, [frC f (encL 2 encV S) (encL 2 encV L) (encL 6 encSlt Z)], 0⟩, z3] := by
    refine ⟨_, _, by
      conv => lhs; simp [opsAt, opsIn, Try.f24, argsσ, -getElem?_pos], by simp [argsσ], by simp, by simp, by simp⟩
  obtain ⟨σ1, H1, e0, t0, t3, t4, hH⟩ := e0
  have e1 : ∃ σ2 H2, W Try.prog cfg (rgn 1 false) ⟨σ1, H1, 56⟩ = some (.normal, ⟨σ2, H2, 56⟩) ∧ (∀ t, t ≠ 5 → σ2 t = σ1 t) ∧ σ2 5 = .ptr (h0.length + 2) 0 0 0 ∧ H2 = H1 ++ [⟨0, 5, [zA], 0⟩] := by
    refine ⟨_, _, by
      conv => lhs; simp [opsAt, opsIn, Try.f24, -getElem?_pos], fun t ht => by simp [upd, ht], by rw [hH]; simp, by simp⟩
  obtain ⟨σ2, H2, e1, u2, u5, hH2⟩ := e1
  have e2 : ∃ σ3 H3, W Try.prog cfg (rgn 2 false) ⟨σ2, H2, 56⟩ = some (.normal, ⟨σ3, H3, 56⟩) ∧ (∀ t, t ≠ 6 → σ3 t = σ2 t) ∧ σ3 6 = .ptr (h0.length + 3) 0 0 0 ∧ H3 = H2 ++ [z3] := by
    refine ⟨_, _, by
      conv => lhs; simp [opsAt, opsIn, Try.f24, -getElem?_pos], fun t ht => by simp [upd, ht], by rw [hH2, hH]; simp, by simp⟩
  obtain ⟨σ3, H3, e2, w2, w6, hH3⟩ := e2
  have hb : Try.f24.body = some (.seq (rgn 0 false) (.scope (scopeAt Try.f24))) := rfl
  have hHH : H3 = h0 ++ [⟨0, 16, [frC f (encL 2 encV S) (encL 2 encV L) (encL 6 encSlt Z)], 0⟩, z3, ⟨0, 5, [zA], 0⟩, z3] := by rw [hH3, hH2, hH]; simp
  have hg : ∀ k, (h0 ++ [⟨0, 16, [frC f (encL 2 encV S) (encL 2 encV L) (encL 6 encSlt Z)], 0⟩, z3, ⟨0, 5, [zA], 0⟩, z3] : List Ob)[h0.length + k]? = ([⟨0, 16, [frC f (encL 2 encV S) (encL 2 encV L) (encL 6 encSlt Z)], 0⟩, z3, ⟨0, 5, [zA], 0⟩, z3] : List Ob)[k]? := fun k => get_app rfl k
  refine ⟨σ3, H3, fun x hx => ?_, ?_, fun d2 h' hp => ?_⟩
  · rw [body_eq Try.func24 hb rfl]
    show (W Try.prog cfg _ ⟨_, h0, 56⟩).bind _ = _
    rw [Wseq, e0, Option.bind_some, seqK_normal, Wscope]
    rw [SC_eq] at hx
    rw [SC_eq, sc_eq, Wseq, e1, Option.bind_some, seqK_normal, Wseq, e2, Option.bind_some, seqK_normal, Wseq, W_label, Option.bind_some, seqK_normal, ← sc_eq, hx, Option.bind_some]
  · subst hHH
    exact ⟨by rw [w2 0 (by decide), u2 0 (by decide)]; exact t0, by rw [w2 3 (by decide), u2 3 (by decide)]; exact t3, by rw [w2 4 (by decide), u2 4 (by decide)]; exact t4, by rw [w2 5 (by decide)]; exact u5, w6, by rw [get_lt hr]; exact ho,
      ⟨_, by rw [show h0.length = h0.length + 0 from rfl, hg 0]; rfl, i0⟩, by rw [hg 1]; rfl, ⟨_, _, _, _, _, by rw [hg 2]; rfl⟩, by rw [hg 3]; rfl, hr, rfl, fun i hi _ => get_lt hi⟩
  · refine callGo_panTo Try.func24 hb rfl ?_
    refine panTo_seq fitW e0 (panTo_scope ?_)
    rw [sc_eq]
    exact panS_seq fitW e1 (panS_seq fitW e2 (panS_seq fitW (W_label _ _) hp))
end
end Go.Proofs.YtlpadffinfijgaaW.Rg
set_option linter.unusedVariables false
set_option linter.unusedSimpArgs false
set_option maxRecDepth 10000
namespace Go.Proofs.YtlpadffinfijgaaW.Rg
open Go.Proofs.YtlpadffinfijgaaW.Vm Go.Proofs.YtlpadffinfijgaaW.Md
open Go Go.Proofs
section
variable {p : Option (List Fu)} {h0 H : List Ob} {r a l u : Nat} {f : Fr} {σ : Nat → D} {c : Ac} {A' : Option (List Vl)}
theorem new_call (hg : good (p.getD []) = true) (hA : A'.getD [] = c.args) (hl : c.args.length < 2 ^ 62) : ∃ d b, fnc Try.prog cfg R 22 [encProg p, I c.fn, encL 2 encV A', I c.seed] = some (.tup [d, .bool b]) ∧ IsF d ((newF (p.getD []) c.fn c.args c.seed).getD fr0) := by
  obtain ⟨b1, b2⟩ := good_bnd hg
  obtain ⟨d, h1, h2⟩ := new_spec p (by omega) c.fn A' c.seed (by rw [hA]; exact hl)
  rw [hA] at h1 h2
  exact ⟨d, _, h1, h2⟩
theorem give_call {g : Fr} (l1 : g.stack.length ≤ 20) (l2 : g.locals.length ≤ 20) (l3 : g.slots.length ≤ 20) (i : Int) (o : Ou) : ∀ d, IsF d g → ∃ d' b, fnc Try.prog cfg R 39 [d, I i, encO o] = some (.tup [d', .bool b]) ∧ IsF d' (giveF g i o).1 := by
  rintro d ⟨S, L, Z, rfl, gS, gL, gZ⟩
  obtain ⟨d', h1, h2⟩ := give_spec g S L Z gS gL gZ i o (by omega) (by omega) (by omega)
  exact ⟨d', _, h1, h2⟩
theorem fin_call {g : Fr} (l3 : g.slots.length ≤ 20) : ∀ d, IsF d g → ∃ b, fnc Try.prog cfg R 40 [d] = some (.tup [encO (finF g).1, .bool b]) := by
  rintro d ⟨S, L, Z, rfl, gS, gL, gZ⟩
  exact ⟨_, final_spec g S L Z gZ (by omega)⟩
theorem do_lens (hg : good (p.getD []) = true) (S : Sf (p.getD []) f) : (doF (p.getD []) f).1.stack.length ≤ 20 ∧ (doF (p.getD []) f).1.locals.length ≤ 20 ∧ (doF (p.getD []) f).1.slots.length ≤ 20 ∧ (doF (p.getD []) f).2.args.length ≤ 20 := by
  obtain ⟨l1, l2, l3⟩ := sf_len hg S
  have s := still_do (p.getD []) f
  have := do_len (p.getD []) f
  have := s.loc
  have := s.slt
  omega
/-- what a run gives -/
def RunOut (p : Option (List Fu)) (g : Nat) : Prop := ∀ f n o m, Sf (p.getD []) f → n < g → runS (p.getD []) g f n = some (o, m) → ∀ (h0 : List Ob) (r u : Nat) (d : D), IsF d f → h0[r]? = some (oRn p n u) → n + u < 2 ^ 60 →
  ∃ H', body Try.prog R 24 [.ptr r 0 0 0, d] h0 = some (encO o, H') ∧ Kp h0 H' r ∧ H'[r]? = some (oRn p m (u + (n - m)))
/-- from a round on -/
def IterOut (p : Option (List Fu)) (g : Nat) : Prop := ∀ f n o m, Sf (p.getD []) f → n < g → runS (p.getD []) g f n = some (o, m) → ∀ (h0 H : List Ob) (r a u : Nat) (σ : Nat → D), At24 p h0 r a f n u σ H → n + u < 2 ^ 60 →
  ∃ σ' H', SC Try.prog cfg (scopeAt Try.f24) KR ⟨σ, H, 56⟩ = some (.ret, ⟨σ', H', 56⟩) ∧ σ' 4 = .ptr (a + 1) 0 0 0 ∧ H'[a + 1]? = some ⟨0, 3, [encO o], 0⟩ ∧ Kp h0 H' r ∧ H'[r]? = some (oRn p m (u + (n - m)))
theorem run_of {g : Nat} (hi : IterOut p g) : RunOut p g := by
  intro f n o m S hn hr h0 r u d hd ho hu
  obtain ⟨σ, H, hb, A, _⟩ := start24 hd ho
  obtain ⟨σ', H', e, s4, h4, hk, hr'⟩ := hi f n o m S hn hr h0 H r h0.length u σ A hu
  refine ⟨H', ?_, hk, hr'⟩
  rw [hb _ e]
  simp [endK_ret, Vm.results, Try.f24, s4, h4, -getElem?_pos]
theorem iter_ok (hg : good (p.getD []) = true) : ∀ g, IterOut p g
  | 0 => fun f n o m S hn => by omega
  | g + 1 => by
    have ih := iter_ok hg g
    have ihr := run_of ih
    intro f n o m S hn hr h0 H r a u σ A hu
    unfold runS at hr
    by_cases h0n : n = 0
    · rw [if_pos h0n] at hr; cases hr
    rw [if_neg h0n] at hr
    obtain ⟨l, rfl⟩ : ∃ l, n = l + 1 := ⟨n - 1, by omega⟩
    rw [Nat.add_sub_cancel] at hr
    obtain ⟨σ1, H1, A1, e1, At1, Ac1, _⟩ := it_do hg S A (by omega) (by omega)
    obtain ⟨q1, q2, q3, q4⟩ := do_lens hg S
    rcases sf_do hg S with ⟨k4, k5, k6, k7, k8⟩ | ⟨k1, k5⟩ | ⟨k2, ⟨ch, hc, hS⟩, k5⟩
    · rw [if_neg (by omega), if_neg (by omega)] at hr
      simp only [Option.some.injEq, Prod.mk.injEq] at hr
      obtain ⟨rfl, hlm⟩ := hr
      obtain ⟨σ2, H2, e2, t4, t5, hk, hr2⟩ := it_end At1 Ac1 k4 (fin_call q3)
      refine ⟨σ2, H2, ?_, t4, t5, hk, ?_⟩
      · rw [SC_eq, e1, e2, Option.bind_some, scopeK_ret]
      · rw [hr2, ← hlm, show l + 1 - l = 1 by omega]
    · rw [if_neg (by omega), if_pos k1] at hr
      obtain ⟨σ2, e2, At2⟩ := it_go At1 Ac1 k1
      obtain ⟨σ3, H3, e3, t4, t5, hk, hr2⟩ := ih _ _ _ _ k5 (by omega) hr h0 H1 r a (u + 1) σ2 At2 (by omega)
      have hm := (runS_ok hg _ _ _ _ _ k5 hr).2
      refine ⟨σ3, H3, ?_, t4, t5, hk, ?_⟩
      · rw [sc_go σ2 H1 (X := Unit) (by rw [e1, e2]), e3]
      · rw [hr2, show u + 1 + (l - m) = u + (l + 1 - m) by omega]
    · rw [if_pos k2, hc, Option.getD_some] at hr
      cases hr1 : runS (p.getD []) g ch l with
      | none => rw [hr1] at hr; cases hr
      | some q =>
        obtain ⟨o2, m2⟩ := q
        rw [hr1] at hr
        simp only at hr
        obtain ⟨ho2, hm2⟩ := runS_ok hg _ _ _ _ _ hS hr1
        have hS2 := k5 o2 ho2
        have hm := (runS_ok hg _ _ _ _ _ hS2 hr).2
        have hnew := new_call (c := (doF (p.getD []) f).2) hg Ac1.2 (by omega)
        rw [hc, Option.getD_some] at hnew
        obtain ⟨σ2, d, e2, id, At2, Ac2, s7, _⟩ := it_new At1 Ac1 k2 hnew
        obtain ⟨H3, e3, hk3, hr3⟩ := ihr ch l o2 m2 hS (by omega) hr1 (H1 ++ [⟨0, 16, [d], 0⟩]) r (u + 1) d id At2.or (by omega)
        have hal := At1.al
        obtain ⟨σ4, H4, e4, At4⟩ := r8_ok At2 Ac2 s7 (by rw [show H1.length = H1.length + 0 from rfl, get_app rfl]; rfl) id (by omega) e3 hk3 hr3 (give_call q1 q2 q3 _ o2)
        obtain ⟨σ5, H5, e5, t4, t5, hk, hr5⟩ := ih _ _ _ _ hS2 (by omega) hr h0 H4 r a _ σ4 At4 (by omega)
        refine ⟨σ5, H5, ?_, t4, t5, hk, ?_⟩
        · rw [sc_go σ4 H4 (X := Unit) ?_, e5]
          rw [e1, e2, Wseq, e4, Option.bind_some, seqK_normal, W_goto, Option.bind_some, blockK_goto, Option.bind_some, sqG]
        · rw [hr5, show u + 1 + (l - m2) + (m2 - m) = u + (l + 1 - m) by omega]
theorem run_ok (hg : good (p.getD []) = true) (g : Nat) : RunOut p g := run_of (iter_ok hg g)
/-- no more fuel: it panics -/
def RunPan (p : Option (List Fu)) (g : Nat) : Prop := ∀ f n, Sf (p.getD []) f → n < g → runS (p.getD []) g f n = none → ∀ (h0 : List Ob) (r u : Nat) (d : D), IsF d f → h0[r]? = some (oRn p n u) → n + u < 2 ^ 60 →
  ∃ H', CallGo Try.prog 24 [.ptr r 0 0 0, d] h0 (.pan spentD) H' ∧ Kp h0 H' r
def IterPan (p : Option (List Fu)) (g : Nat) : Prop := ∀ f n, Sf (p.getD []) f → n < g → runS (p.getD []) g f n = none → ∀ (h0 H : List Ob) (r a u : Nat) (σ : Nat → D), At24 p h0 r a f n u σ H → n + u < 2 ^ 60 →
  ∃ H', PanS Try.prog KR (scopeAt Try.f24) [] ⟨σ, H, 56⟩ spentD [] H' ∧ Kp h0 H' r
theorem panrun_of {g : Nat} (hi : IterPan p g) : RunPan p g := by
  intro f n S hn hr h0 r u d hd ho hu
  obtain ⟨σ, H, _, A, hb⟩ := start24 hd ho
  obtain ⟨H', e, hk⟩ := hi f n S hn hr h0 H r h0.length u σ A hu
  exact ⟨H', hb _ _ e, hk⟩
/-- a child panics -/
theorem r8_pan (A : At24 p h0 r a f l u σ H) (hA : Act24 a H c A') {b : Nat} (s7 : σ 7 = .ptr b 0 0 0) {dc : D} {ch : Fr} (hb : H[b]? = some ⟨0, 16, [dc], 0⟩) (hch : IsF dc ch) {H3 : List Ob}
    (hrun : CallGo Try.prog 24 [.ptr r 0 0 0, dc] H (.pan spentD) H3) : PanTo Try.prog (rgn 8 true) [] ⟨σ, H, 56⟩ spentD [] H3 := by
  obtain ⟨df, k1, k2⟩ := A.oa
  obtain ⟨S, L, Z, rfl, gS, gL, gZ⟩ := k2
  obtain ⟨Sc, Lc, Zc, rfl, gSc, gLc, gZc⟩ := hch
  have s0 := A.s0; have s3 := A.s3; have s5 := A.s5; have h := hA.1
  let σp : Nat → D := upd (upd (upd (upd (upd σ 39 (frC f (encL 2 encV S) (encL 2 encV L) (encL 6 encSlt Z))) 40 (.ptr (a + 2) 0 0 2)) 41 (I c.slot)) 42 (.ptr r 0 0 0)) 43 (frC ch (encL 2 encV Sc) (encL 2 encV Lc) (encL 6 encSlt Zc))
  have hP : PanAt Try.prog cfg (opsAt Try.f24 8) 5 ⟨σ, H, 56⟩ σp 24 [.ptr r 0 0 0, frC ch (encL 2 encV Sc) (encL 2 encV Lc) (encL 6 encSlt Zc)] := by
    refine ⟨by decide +kernel, fun t ht => ?_, fun i o hi ho => ?_, ?_⟩
    · have t0 := ht 0 (by decide); have t1 := ht 1 (by decide); have t2 := ht 2 (by decide); have t3 := ht 3 (by decide); have t4 := ht 4 (by decide)
      simp [opsAt, opsIn, Try.f24] at t0 t1 t2 t3 t4
      simp only [σp, upd]
      rw [if_neg (by omega), if_neg (by omega), if_neg (by omega), if_neg (by omega), if_neg (by omega)]
    · have hi : i = 0 ∨ i = 1 ∨ i = 2 ∨ i = 3 ∨ i = 4 := by omega
      rcases hi with rfl | rfl | rfl | rfl | rfl
      · simp [opsAt, opsIn, Try.f24] at ho; subst ho; exact ⟨39, rfl, (by show 39 < 56; decide), by simp [σp, s3, k1, -getElem?_pos]⟩
      · simp [opsAt, opsIn, Try.f24] at ho; subst ho; exact ⟨40, rfl, (by show 40 < 56; decide), by simp [σp, s5, -getElem?_pos]⟩
      · simp [opsAt, opsIn, Try.f24] at ho; subst ho; exact ⟨41, rfl, (by show 41 < 56; decide), by simp [σp, h, -getElem?_pos]⟩
      · simp [opsAt, opsIn, Try.f24] at ho; subst ho; exact ⟨42, rfl, (by show 42 < 56; decide), by simp [σp, s0, -getElem?_pos]⟩
      · simp [opsAt, opsIn, Try.f24] at ho; subst ho; exact ⟨43, rfl, (by show 43 < 56; decide), by simp [σp, s7, hb, -getElem?_pos]⟩
    · exact ⟨_, rfl, ⟨_, _, [], [], [.ptr r 0 0 0, frC ch (encL 2 encV Sc) (encL 2 encV Lc) (encL 6 encSlt Zc)], rfl, rfl, by simp [σp], rfl, rfl⟩⟩
  exact panTo_draw fitW hP hrun
theorem iter_pan (hg : good (p.getD []) = true) : ∀ g, IterPan p g
  | 0 => fun f n S hn => by omega
  | g + 1 => by
    have ih := iter_pan hg g
    have ihr := panrun_of ih
    intro f n S hn hr h0 H r a u σ A hu
    unfold runS at hr
    by_cases h0n : n = 0
    · subst h0n
      refine ⟨H, panS_end ?_, by have := A.al; have := A.kp.1; omega, fun i hi hne => A.kp.2 i (by have := A.kp.1; omega) hne⟩
      rw [KR_eq]
      have s0 := A.s0
      refine panTo_left (panTo_call fitW (s1 := ⟨_, H, 56⟩) (n := 1) rfl rfl (by
        conv => lhs; simp [opsAt, opsIn, Try.f24, s0, -getElem?_pos]) (g := 37) (args := [.ptr r 0 0 0]) ⟨_, _, [], [], [.ptr r 0 0 0], rfl, rfl, by simp, rfl, rfl⟩ (count_pan p u A.or))
    rw [if_neg h0n] at hr
    obtain ⟨l, rfl⟩ : ∃ l, n = l + 1 := ⟨n - 1, by omega⟩
    rw [Nat.add_sub_cancel] at hr
    obtain ⟨σ1, H1, A1, e1, At1, Ac1, hpan⟩ := it_do hg S A (by omega) (by omega)
    obtain ⟨q1, q2, q3, q4⟩ := do_lens hg S
    rcases sf_do hg S with ⟨k4, k5, k6, k7, k8⟩ | ⟨k1, k5⟩ | ⟨k2, ⟨ch, hc, hS⟩, k5⟩
    · rw [if_neg (by omega), if_neg (by omega)] at hr
      cases hr
    · rw [if_neg (by omega), if_pos k1] at hr
      obtain ⟨σ2, e2, At2⟩ := it_go At1 Ac1 k1
      obtain ⟨H3, e3, hk⟩ := ih _ _ k5 (by omega) hr h0 H1 r a (u + 1) σ2 At2 (by omega)
      exact ⟨H3, pan_go (by rw [e1, e2]) e3, hk⟩
    · rw [if_pos k2, hc, Option.getD_some] at hr
      have hnew := new_call (c := (doF (p.getD []) f).2) hg Ac1.2 (by omega)
      rw [hc, Option.getD_some] at hnew
      obtain ⟨σ2, d, e2, id, At2, Ac2, s7, hp2⟩ := it_new At1 Ac1 k2 hnew
      have hal := At1.al
      have hb : (H1 ++ [⟨0, 16, [d], 0⟩] : List Ob)[H1.length]? = some ⟨0, 16, [d], 0⟩ := by rw [show H1.length = H1.length + 0 from rfl, get_app rfl]; rfl
      cases hr1 : runS (p.getD []) g ch l with
      | none =>
        obtain ⟨H3, e3, hk3⟩ := ihr ch l hS (by omega) hr1 (H1 ++ [⟨0, 16, [d], 0⟩]) r (u + 1) d id At2.or (by omega)
        refine ⟨H3, panS_end (hpan _ _ (hp2 _ _ (r8_pan At2 Ac2 s7 hb id e3))), ?_, fun i hi hne => ?_⟩
        · have := hk3.1; have := At2.al; have := A.kp.1; omega
        · have := At2.al; have := A.kp.1
          rw [hk3.2 i (by omega) hne]; exact At2.kp.2 i (by omega) hne
      | some q =>
        obtain ⟨o2, m2⟩ := q
        rw [hr1] at hr
        simp only at hr
        obtain ⟨ho2, hm2⟩ := runS_ok hg _ _ _ _ _ hS hr1
        have hS2 := k5 o2 ho2
        obtain ⟨H3, e3, hk3, hr3⟩ := run_ok hg g ch l o2 m2 hS (by omega) hr1 (H1 ++ [⟨0, 16, [d], 0⟩]) r (u + 1) d id At2.or (by omega)
        obtain ⟨σ4, H4, e4, At4⟩ := r8_ok At2 Ac2 s7 hb id (by omega) e3 hk3 hr3 (give_call q1 q2 q3 _ o2)
        obtain ⟨H5, e5, hk⟩ := ih _ _ hS2 (by omega) hr h0 H4 r a _ σ4 At4 (by omega)
        refine ⟨H5, pan_go ?_ e5, hk⟩
        rw [e1, e2, Wseq, e4, Option.bind_some, seqK_normal, W_goto, Option.bind_some, blockK_goto, Option.bind_some, sqG]
theorem run_pan (hg : good (p.getD []) = true) (g : Nat) : RunPan p g := panrun_of (iter_pan hg g)
end
end Go.Proofs.YtlpadffinfijgaaW.Rg
set_option linter.unusedVariables false
set_option linter.unusedSimpArgs false
set_option maxRecDepth 10000
namespace Go.Proofs.YtlpadffinfijgaaW.Rg
open Go.Proofs.YtlpadffinfijgaaW.Vm Go.Proofs.YtlpadffinfijgaaW.Md
open Go Go.Proofs
@[reducible] noncomputable def rg (k : Nat) (d : Bool) : Code := .region k (opsAt Try.f11 k) d
@[reducible] noncomputable def E8 : Code := .seq (rg 8 true) .ret
@[reducible] noncomputable def E5 : Code := .seq (rg 5 false) (.seq (rg 6 false) (.seq (rg 7 false) E8))
@[reducible] noncomputable def E3 : Code := .seq (rg 3 false) (.cond (.tmp 43) (.seq (rg 4 false) .ret) .skip)
theorem ev_code : Try.f11.body = some (.seq (rg 0 false) (.seq (rg 1 false) (.seq (rg 2 false) (.seq E3 E5)))) := rfl
@[reducible] def z1 : Ob := ⟨0, 1, [I 0], 0⟩
@[reducible] def evArgs (p : Option (List Fu)) (a : Option (List Vl)) (s n : Int) : List D := [encProg p, encL 2 encV a, I s, I n]
section
variable (p : Option (List Fu)) (a : Option (List Vl)) (s n : Int)
/-- is there nothing to run? -/
def evOk : Bool := good (p.getD []) && (newF (p.getD []) 0 (a.getD []) s).isSome && decide (1 ≤ n) && decide (n ≤ 100000)
/-- up to the question -/
theorem ev_start (hl : (p.getD []).length < 2 ^ 63) (ha : (a.getD []).length < 2 ^ 62) : ∃ σ σ0 σ1 σ2 d H0 H1 H2,
    W Try.prog cfg (rg 0 false) ⟨argsσ (evArgs p a s n), [], 58⟩ = some (.normal, ⟨σ0, H0, 58⟩) ∧ W Try.prog cfg (rg 1 false) ⟨σ0, H0, 58⟩ = some (.normal, ⟨σ1, H1, 58⟩) ∧ W Try.prog cfg (rg 2 false) ⟨σ1, H1, 58⟩ = some (.normal, ⟨σ2, H2, 58⟩) ∧
    W Try.prog cfg (rg 3 false) ⟨σ2, H2, 58⟩ = some (.normal, ⟨σ, H2, 58⟩) ∧ H2 = [z3, z1, z1, ⟨0, 16, [d], 0⟩] ∧ IsF d ((newF (p.getD []) 0 (a.getD []) s).getD fr0) ∧
    σ 0 = encProg p ∧ σ 3 = I n ∧ σ 8 = .ptr 0 0 0 0 ∧ σ 9 = .ptr 1 0 0 0 ∧ σ 10 = .ptr 2 0 0 0 ∧ σ 14 = .ptr 3 0 0 0 ∧ σ 43 = .bool (!(evOk p a s n)) := by
  have hC := check_spec p hl
  obtain ⟨d, hN, iN⟩ := new_spec p hl 0 a s ha
  have i0 := iN
  obtain ⟨S, L, Z, rfl, gS, gL, gZ⟩ := iN
  have e0 : ∃ σ0, W Try.prog cfg (rg 0 false) ⟨argsσ (evArgs p a s n), [], 58⟩ = some (.normal, ⟨σ0, [z3, z1, z1], 58⟩) ∧ σ0 0 = encProg p ∧ σ0 1 = encL 2 encV a ∧ σ0 2 = I s ∧ σ0 3 = I n ∧ σ0 8 = .ptr 0 0 0 0 ∧ σ0 9 = .ptr 1 0 0 0 ∧ σ0 10 = .ptr 2 0 0 0 := by
    refine ⟨_, by
      conv => lhs; simp [opsAt, opsIn, Try.f11, argsσ, -getElem?_pos], by simp [argsσ], by simp [argsσ], by simp [argsσ], by simp [argsσ], by simp, by simp, by simp⟩
  obtain ⟨σ0, e0, t0, t1, t2, t3, t8, t9, t10⟩ := e0
  have e1 : ∃ σ1, W Try.prog cfg (rg 1 false) ⟨σ0, [z3, z1, z1], 58⟩ = some (.normal, ⟨σ1, [z3, z1, z1], 58⟩) ∧ σ1 13 = I (check (p.getD [])).2.2 ∧ (∀ t, t ≤ 10 → σ1 t = σ0 t) := by
    refine ⟨_, by
      conv => lhs; simp [opsAt, opsIn, Try.f11, t0, hC, -getElem?_pos], by simp, fun t ht => ?_⟩
    simp only [upd]
    repeat rw [if_neg (by omega)]
  obtain ⟨σ1, e1, t13, u1⟩ := e1
  have v0' := u1 0 (by decide); have v1 := u1 1 (by decide); have v2 := u1 2 (by decide)
  rw [t0] at v0'; rw [t1] at v1; rw [t2] at v2
  have e2 : ∃ σ2, W Try.prog cfg (rg 2 false) ⟨σ1, [z3, z1, z1], 58⟩ = some (.normal, ⟨σ2, [z3, z1, z1, ⟨0, 16, [frC ((newF (p.getD []) 0 (a.getD []) s).getD fr0) (encL 2 encV S) (encL 2 encV L) (encL 6 encSlt Z)], 0⟩], 58⟩) ∧ σ2 14 = .ptr 3 0 0 0 ∧
      σ2 15 = .bool (newF (p.getD []) 0 (a.getD []) s).isSome ∧ (∀ t, t ≤ 13 → σ2 t = σ1 t) := by
    refine ⟨_, by
      conv => lhs; simp [opsAt, opsIn, Try.f11, v0', v1, v2, hN, -getElem?_pos], by simp, by simp, fun t ht => ?_⟩
    simp only [upd]
    repeat rw [if_neg (by omega)]
  obtain ⟨σ2, e2, t14, t15, u2⟩ := e2
  have w13 := u2 13 (by decide); have w3 : σ2 3 = I n := by rw [u2 3 (by decide), u1 3 (by decide), t3]
  rw [t13] at w13
  have e3 : ∃ σ3, W Try.prog cfg (rg 3 false) ⟨σ2, [z3, z1, z1, ⟨0, 16, [frC ((newF (p.getD []) 0 (a.getD []) s).getD fr0) (encL 2 encV S) (encL 2 encV L) (encL 6 encSlt Z)], 0⟩], 58⟩ =
      some (.normal, ⟨σ3, [z3, z1, z1, ⟨0, 16, [frC ((newF (p.getD []) 0 (a.getD []) s).getD fr0) (encL 2 encV S) (encL 2 encV L) (encL 6 encSlt Z)], 0⟩], 58⟩) ∧ σ3 43 = .bool (!(evOk p a s n)) ∧ (∀ t, t ≤ 15 → σ3 t = σ2 t) := by
    unfold evOk good
    generalize (newF (p.getD []) 0 (a.getD []) s).isSome = B at *
    have hc0 : ((check (p.getD [])).2.2 == 0) = decide ((check (p.getD [])).2.2 = 0) := by rw [Bool.beq_eq_decide_eq]
    rw [hc0]
    have n1 : decide (1 ≤ n) = !decide (n < 1) := by by_cases h : n < 1 <;> simp [h] <;> omega
    have n2 : decide (n ≤ 100000) = !decide (100000 < n) := by by_cases h : 100000 < n <;> simp [h] <;> omega
    rw [n1, n2]
    cases k1 : decide ((check (p.getD [])).2.2 = 0)
    · refine ⟨_, by
        conv => lhs; simp [opsAt, opsIn, Try.f11, w13, w3, t15, k1, -getElem?_pos], by simp, fun t ht => ?_⟩
      simp only [upd]
      repeat rw [if_neg (by omega)]
    cases B
    · refine ⟨_, by
        conv => lhs; simp [opsAt, opsIn, Try.f11, w13, w3, t15, k1, -getElem?_pos], by simp, fun t ht => ?_⟩
      simp only [upd]
      repeat rw [if_neg (by omega)]
    cases k2 : decide (n < 1)
    · refine ⟨_, by
        conv => lhs; simp [opsAt, opsIn, Try.f11, w13, w3, t15, k1, k2, -getElem?_pos], by simp, fun t ht => ?_⟩
      simp only [upd]
      repeat rw [if_neg (by omega)]
    · refine ⟨_, by
        conv => lhs; simp [opsAt, opsIn, Try.f11, w13, w3, t15, k1, k2, -getElem?_pos], by simp, fun t ht => ?_⟩
      simp only [upd]
      repeat rw [if_neg (by omega)]
  obtain ⟨σ3, e3, t43, u3⟩ := e3
  have all : ∀ t, t ≤ 10 → σ3 t = σ0 t := fun t ht => by rw [u3 t (by omega), u2 t (by omega), u1 t (by omega)]
  exact ⟨σ3, σ0, σ1, σ2, _, _, _, _, e0, e1, e2, e3, rfl, i0, by rw [all 0 (by decide), t0], by rw [all 3 (by decide), t3], by rw [all 8 (by decide), t8], by rw [all 9 (by decide), t9], by rw [all 10 (by decide), t10], by rw [u3 14 (by decide), t14], t43⟩
end
end Go.Proofs.YtlpadffinfijgaaW.Rg
set_option linter.unusedVariables false
set_option linter.unusedSimpArgs false
set_option maxRecDepth 10000
namespace Go.Proofs.YtlpadffinfijgaaW.Rg
open Go.Proofs.YtlpadffinfijgaaW.Vm Go.Proofs.YtlpadffinfijgaaW.Md
open Go Go.Proofs
section
variable {p : Option (List Fu)} {a : Option (List Vl)} {s n : Int}
/-- nothing is run -/
theorem ev_no (hl : (p.getD []).length < 2 ^ 63) (ha : (a.getD []).length < 2 ^ 62) (h : evOk p a s n = false) : fnc Try.prog cfg R 11 (evArgs p a s n) = some (.tup [encO o0, I 0, I 1]) := by
  obtain ⟨σ, σ0, σ1, σ2, d, H0, H1, H2, e0, e1, e2, e3, rfl, id, t0, t3, t8, t9, t10, t14, t43⟩ := ev_start p a s n hl ha
  obtain ⟨S, L, Z, rfl, gS, gL, gZ⟩ := id
  rw [h] at t43
  rw [fnc_at rfl, body_eq Try.func11 ev_code rfl]
  show ((W Try.prog cfg _ ⟨_, [], 58⟩).bind _).bind _ = _
  rw [Wseq, e0, Option.bind_some, seqK_normal, Wseq, e1, Option.bind_some, seqK_normal, Wseq, e2, Option.bind_some, seqK_normal, Wseq, Wseq, e3, Option.bind_some, seqK_normal, Wcond]
  simp [t43, opsAt, opsIn, Try.f11, t8, t9, t10, Vm.results, -getElem?_pos, o0, v0]
theorem nilN (x y : Operand) : binD Try.prog .neq 20 x y .nili .nili = some (.bool false) := by
  cases x <;> cases y <;> rfl
theorem ifcN (x y : Operand) (t : Nat) (d : D) : binD Try.prog .neq 20 x y (.ifc t d) .nili = some (.bool true) := rfl
theorem def_first (H : List Ob) (l : List D) (hl : l.length ≤ 3) (x : D) : OpsGo Try.prog (opsAt Try.f23 0) 1 [] ⟨upd (argsσ l) 6 x, H, 18⟩ (.ex .normal) [] ⟨upd (upd (argsσ l) 6 x) 3 x, H, 18⟩ := by
  refine opsGo_step fitW (s1 := ⟨upd (upd (argsσ l) 6 x) 3 x, H, 18⟩) (o := _) rfl ?_ (opsGo_nil (by decide))
  conv => lhs; simp [opsAt, opsIn, Try.f23, -getElem?_pos]
/-- the deferred closure, when nothing went up -/
theorem def_none (H : List Ob) (d1 d2 d3 : D) : DefGo Try.prog 23 [d1, d2, d3] none H H := by
  refine defGo_of (s0 := ⟨upd (argsσ [d1, d2, d3]) 6 .nili, H, 18⟩) (s1 := ⟨upd (upd (argsσ [d1, d2, d3]) 6 .nili) 3 .nili, H, 18⟩) (st' := ⟨?s, H, 18⟩) (y := .normal) (d := .tup []) Try.func23 rfl rfl rfl rfl rfl rfl rfl rfl (def_first H _ (by simp) .nili) (.inl rfl) (goes_W fitW ?h) rfl
  case h =>
    conv => lhs; simp [opsAt, opsIn, Try.f23, nilN, -getElem?_pos]
@[reducible] noncomputable def rgd (k : Nat) : Code := .region k (opsAt Try.f23 k) false
/-- the deferred closure, when the fuel is spent -/
theorem def_some (H : List Ob) (h0 : H[0]? = some z3) (h1 : H[1]? = some z1) (h2 : H[2]? = some z1) : DefGo Try.prog 23 [.ptr 0 0 0 0, .ptr 1 0 0 0, .ptr 2 0 0 0] (some spentD) H (((H.set 0 ⟨0, 3, [encO o0], 0⟩).set 1 ⟨0, 1, [I 0], 0⟩).set 2 ⟨0, 1, [I 100], 0⟩) := by
  have l0 := hlt h0; have l1 := hlt h1; have l2 := hlt h2
  have g1 : ∀ o : Ob, (H.set 0 o)[1]? = some z1 := fun o => by rw [List.getElem?_set_ne (by decide)]; exact h1
  have g2 : ∀ o o' : Ob, ((H.set 0 o).set 1 o')[2]? = some z1 := fun o o' => by rw [List.getElem?_set_ne (by decide), List.getElem?_set_ne (by decide)]; exact h2
  have hg : ∃ σ', Goes Try.prog (sq2 (Try.f23.body.getD .skip)) [] ⟨upd (upd (argsσ [.ptr 0 0 0 0, .ptr 1 0 0 0, .ptr 2 0 0 0]) 6 spentD) 3 spentD, H, 18⟩ (.ex .normal) [] ⟨σ', ((H.set 0 ⟨0, 3, [encO o0], 0⟩).set 1 ⟨0, 1, [I 0], 0⟩).set 2 ⟨0, 1, [I 100], 0⟩, 18⟩ := by
    obtain ⟨σ, hσ⟩ : ∃ σ, σ = upd (upd (argsσ [.ptr 0 0 0 0, .ptr 1 0 0 0, .ptr 2 0 0 0]) 6 spentD) 3 spentD := ⟨_, rfl⟩
    rw [← hσ]
    have s0 : σ 0 = .ptr 0 0 0 0 := by rw [hσ]; rfl
    have s1 : σ 1 = .ptr 1 0 0 0 := by rw [hσ]; rfl
    have s2 : σ 2 = .ptr 2 0 0 0 := by rw [hσ]; rfl
    have s3 : σ 3 = spentD := by rw [hσ]; rfl
    clear hσ
    have e1 : ∃ σ1, W Try.prog cfg (rgd 1) ⟨σ, H, 18⟩ = some (.normal, ⟨σ1, H, 18⟩) ∧ σ1 8 = .bool true ∧ ∀ t, t ≤ 3 → σ1 t = σ t := by
      refine ⟨_, by
        conv => lhs; simp [opsAt, opsIn, Try.f23, s3, ifcN, -getElem?_pos], by simp, fun t ht => ?_⟩
      simp only [upd]
      repeat rw [if_neg (by omega)]
    obtain ⟨σ1, e1, u8, u⟩ := e1
    have u3 : σ1 3 = spentD := by rw [u 3 (by decide), s3]
    have e2 : ∃ σ2, OpsGo Try.prog (opsAt Try.f23 2) 0 [] ⟨σ1, H, 18⟩ (.ex .normal) [] ⟨σ2, H, 18⟩ ∧ σ2 5 = .bool true ∧ ∀ t, t ≤ 3 → σ2 t = σ1 t := by
      refine ⟨_, opsGo_step fitW (s1 := ⟨upd σ1 10 spentD, H, 18⟩) (o := _) rfl (by
        conv => lhs; simp [opsAt, opsIn, Try.f23, u3, -getElem?_pos]) (opsGo_assert (s1 := ⟨upd (upd σ1 10 spentD) 11 (.tup [.agg [], .bool true]), H, 18⟩) (o := _) rfl rfl rfl (by simp [ev]) unSp (by simp) rfl
          (opsGo_steps fitW (s1 := ⟨upd (upd (upd (upd (upd σ1 10 spentD) 11 (.tup [.agg [], .bool true])) 9 (.tup [.agg [], .bool true])) 12 (.agg [])) 13 (.bool true), H, 18⟩) 3 2 rfl (by decide) (by
            conv => lhs; simp [opsAt, opsIn, Try.f23, -getElem?_pos]) (opsGo_zero (t := 66) (u := 12) (v := 4) (o := _) (o' := _) rfl rfl rfl rfl rfl rfl rfl rfl (by decide) (by rfl) (by rfl) (by simp) (by show 4 < 18; decide)
              (opsGo_step fitW (s1 := ⟨upd (upd (upd (upd (upd (upd (upd σ1 10 spentD) 11 (.tup [.agg [], .bool true])) 9 (.tup [.agg [], .bool true])) 12 (.agg [])) 13 (.bool true)) 4 .und) 5 (.bool true), H, 18⟩) (o := _) rfl (by
                conv => lhs; simp [opsAt, opsIn, Try.f23, -getElem?_pos]) (opsGo_nil (ops := opsAt Try.f23 2) (k := 8) (by decide)))))), by simp, fun t ht => ?_⟩
      simp only [upd]
      repeat rw [if_neg (by omega)]
    obtain ⟨σ2, e2, w5, w⟩ := e2
    have e3 : ∃ σ3, W Try.prog cfg (.seq (rgd 3) (.cond (.tmp 15) (rgd 4) .skip)) ⟨σ2, H, 18⟩ = some (.normal, ⟨σ3, H, 18⟩) ∧ ∀ t, t ≤ 3 → σ3 t = σ2 t := by
      refine ⟨_, by
        conv => lhs; simp [opsAt, opsIn, Try.f23, w5, -getElem?_pos], fun t ht => ?_⟩
      simp only [upd]
      repeat rw [if_neg (by omega)]
    obtain ⟨σ3, e3, x⟩ := e3
    have x0 : σ3 0 = .ptr 0 0 0 0 := by rw [x 0 (by decide), w 0 (by decide), u 0 (by decide), s0]
    have x1 : σ3 1 = .ptr 1 0 0 0 := by rw [x 1 (by decide), w 1 (by decide), u 1 (by decide), s1]
    have x2 : σ3 2 = .ptr 2 0 0 0 := by rw [x 2 (by decide), w 2 (by decide), u 2 (by decide), s2]
    have e5 : ∃ σ5, W Try.prog cfg (rgd 5) ⟨σ3, H, 18⟩ = some (.normal, ⟨σ5, ((H.set 0 ⟨0, 3, [encO o0], 0⟩).set 1 ⟨0, 1, [I 0], 0⟩).set 2 ⟨0, 1, [I 100], 0⟩, 18⟩) := by
      refine ⟨_, by
        conv => lhs; simp [opsAt, opsIn, Try.f23, x0, x1, x2, h0, g1, g2, l0, l1, l2, -getElem?_pos]
        rfl⟩
    obtain ⟨σ5, e5⟩ := e5
    exact ⟨σ5, goes_seq (goes_W fitW e1) (goes_cond (b := true) (by simp [ev, u8]) (goes_seq (goes_seq (goes_region e2) (goes_W fitW e3)) (goes_W fitW e5)))⟩
  obtain ⟨σ', hg⟩ := hg
  exact defGo_of (s0 := ⟨upd (argsσ [.ptr 0 0 0 0, .ptr 1 0 0 0, .ptr 2 0 0 0]) 6 spentD, H, 18⟩) (y := .normal) (d := .tup []) Try.func23 rfl rfl rfl rfl rfl rfl rfl rfl (def_first H _ (by simp) spentD) (.inl rfl) hg rfl
end
end Go.Proofs.YtlpadffinfijgaaW.Rg
set_option linter.unusedVariables false
set_option linter.unusedSimpArgs false
set_option maxRecDepth 10000
namespace Go.Proofs.YtlpadffinfijgaaW.Rg
open Go.Proofs.YtlpadffinfijgaaW.Vm Go.Proofs.YtlpadffinfijgaaW.Md
open Go Go.Proofs
@[reducible] def cloE : D := .clo (.func 23) [] [.ptr 0 0 0 0, .ptr 1 0 0 0, .ptr 2 0 0 0]
section
variable {p : Option (List Fu)} {a : Option (List Vl)} {s : Int} {n : Nat}
/-- up to the run -/
theorem ev_mid (hl : (p.getD []).length < 2 ^ 63) (ha : (a.getD []).length < 2 ^ 62) (h : evOk p a s n = true) : ∃ σ d, IsF d ((newF (p.getD []) 0 (a.getD []) s).getD fr0) ∧
    σ 8 = .ptr 0 0 0 0 ∧ σ 9 = .ptr 1 0 0 0 ∧ σ 10 = .ptr 2 0 0 0 ∧ σ 14 = .ptr 3 0 0 0 ∧ σ 16 = .ptr 4 0 0 0 ∧
    ∀ e dl st', Goes Try.prog (.seq (rg 7 false) E8) [cloE] ⟨σ, [z3, z1, z1, ⟨0, 16, [d], 0⟩, oRn p n 0], 58⟩ e dl st' → Goes Try.prog (.seq (rg 0 false) (.seq (rg 1 false) (.seq (rg 2 false) (.seq E3 E5)))) [] ⟨argsσ (evArgs p a s n), [], 58⟩ e dl st' := by
  obtain ⟨σ, σ0, σ1, σ2, d, H0, H1, H2, e0, e1, e2, e3, rfl, id, t0, t3, t8, t9, t10, t14, t43⟩ := ev_start p a s n hl ha
  rw [h] at t43
  have e4 : W Try.prog cfg E3 ⟨σ2, [z3, z1, z1, ⟨0, 16, [d], 0⟩], 58⟩ = some (.normal, ⟨σ, [z3, z1, z1, ⟨0, 16, [d], 0⟩], 58⟩) := by
    rw [show E3 = .seq (rg 3 false) (.cond (.tmp 43) (.seq (rg 4 false) .ret) .skip) from rfl, Wseq, e3, Option.bind_some, seqK_normal, Wcond]
    simp [ev, t43]
  have e5 : Goes Try.prog (rg 5 false) [] ⟨σ, [z3, z1, z1, ⟨0, 16, [d], 0⟩], 58⟩ (.ex .normal) [cloE] ⟨upd σ 45 cloE, [z3, z1, z1, ⟨0, 16, [d], 0⟩], 58⟩ := by
    refine goes_region (opsGo_step fitW (s1 := ⟨upd σ 45 cloE, [z3, z1, z1, ⟨0, 16, [d], 0⟩], 58⟩) (o := _) rfl ?_ (opsGo_defer (o := _) rfl rfl rfl rfl rfl rfl rfl (opsGo_nil (ops := opsAt Try.f11 5) (k := 2) (by decide))))
    show stepD Try.prog cfg _ _ (opsAt Try.f11 5)[0] _ = _
    simp [opsAt, opsIn, Try.f11, opD, t8, t9, t10, putK]
  have e6 : ∃ σ6, W Try.prog cfg (rg 6 false) ⟨upd σ 45 cloE, [z3, z1, z1, ⟨0, 16, [d], 0⟩], 58⟩ = some (.normal, ⟨σ6, [z3, z1, z1, ⟨0, 16, [d], 0⟩, oRn p n 0], 58⟩) ∧ σ6 16 = .ptr 4 0 0 0 ∧ ∀ t, t ≤ 15 → σ6 t = σ t := by
    refine ⟨_, by
      conv => lhs; simp [opsAt, opsIn, Try.f11, t0, t3, -getElem?_pos]
      rfl, by simp, fun t ht => ?_⟩
    simp only [upd]
    repeat rw [if_neg (by omega)]
  obtain ⟨σ6, e6, u16, u⟩ := e6
  refine ⟨σ6, d, id, by rw [u 8 (by decide), t8], by rw [u 9 (by decide), t9], by rw [u 10 (by decide), t10], by rw [u 14 (by decide), t14], u16, fun e dl st' hg => ?_⟩
  exact goes_seq (goes_W fitW e0) (goes_seq (goes_W fitW e1) (goes_seq (goes_W fitW e2) (goes_seq (goes_W fitW e4) (goes_seq e5 (goes_seq (goes_W fitW e6) hg)))))
/-- the machine alone cannot defer -/
theorem ev_none (hl : (p.getD []).length < 2 ^ 63) (ha : (a.getD []).length < 2 ^ 62) (h : evOk p a s n = true) : fnc Try.prog cfg R 11 (evArgs p a s n) = none := by
  obtain ⟨σ, σ0, σ1, σ2, d, H0, H1, H2, e0, e1, e2, e3, rfl, id, t0, t3, t8, t9, t10, t14, t43⟩ := ev_start p a s n hl ha
  rw [h] at t43
  rw [fnc_at rfl, body_eq Try.func11 ev_code rfl]
  show ((W Try.prog cfg _ ⟨_, [], 58⟩).bind _).bind _ = _
  rw [Wseq, e0, Option.bind_some, seqK_normal, Wseq, e1, Option.bind_some, seqK_normal, Wseq, e2, Option.bind_some, seqK_normal, Wseq, Wseq, e3, Option.bind_some, seqK_normal, Wcond]
  simp [ev, t43, Wseq, opsAt, opsIn, Try.f11, opD, t8, t9, t10, putK]
/-- it ends -/
theorem ev_end (hl : (p.getD []).length < 2 ^ 63) (ha : (a.getD []).length < 2 ^ 62) (hg : good (p.getD []) = true) {f : Fr} (hf : newF (p.getD []) 0 (a.getD []) s = some f) (S : Sf (p.getD []) f) (h : evOk p a s n = true) {o : Ou} {m : Nat} (hr : runS (p.getD []) (n + 1) f n = some (o, m)) :
    ∃ h', CallGo Try.prog 11 (evArgs p a s n) [] (.ret (.tup [encO o, I (n - m : Nat), I 0])) h' := by
  have hn : (n : Int) ≤ 100000 := by unfold evOk at h; simp only [Bool.and_eq_true, decide_eq_true_eq] at h; exact h.2
  obtain ⟨σ, d, id, t8, t9, t10, t14, t16, hgo⟩ := ev_mid hl ha h
  rw [hf, Option.getD_some] at id
  have i0 := id
  obtain ⟨H7, hb, hk, hr4⟩ := run_ok hg (n + 1) f n o m S (by omega) hr [z3, z1, z1, ⟨0, 16, [d], 0⟩, oRn p n 0] 4 0 d id rfl (by omega)
  obtain ⟨Sx, L, Z, rfl, gS, gL, gZ⟩ := id
  rw [Nat.zero_add] at hr4
  have k0 : H7[0]? = some z3 := hk.2 0 (by simp) (by decide)
  have k1 : H7[1]? = some z1 := hk.2 1 (by simp) (by decide)
  have k2 : H7[2]? = some z1 := hk.2 2 (by simp) (by decide)
  have l0 := hlt k0; have l1 := hlt k1; have l2 := hlt k2; have l4 := hlt hr4
  have e7 : ∃ σ7, W Try.prog cfg (rg 7 false) ⟨σ, [z3, z1, z1, ⟨0, 16, [frC f (encL 2 encV Sx) (encL 2 encV L) (encL 6 encSlt Z)], 0⟩, oRn p n 0], 58⟩ = some (.normal, ⟨σ7, H7.set 0 ⟨0, 3, [encO o], 0⟩, 58⟩) ∧ ∀ t, t ≤ 16 → σ7 t = σ t := by
    refine ⟨_, by
      conv => lhs; simp [opsAt, opsIn, Try.f11, t8, t14, t16, hb, k0, l0, -getElem?_pos], fun t ht => ?_⟩
    simp only [upd]
    repeat rw [if_neg (by omega)]
  obtain ⟨σ7, e7, u⟩ := e7
  have u8 : σ7 8 = .ptr 0 0 0 0 := by rw [u 8 (by decide), t8]
  have u9 : σ7 9 = .ptr 1 0 0 0 := by rw [u 9 (by decide), t9]
  have u10 : σ7 10 = .ptr 2 0 0 0 := by rw [u 10 (by decide), t10]
  have u16 : σ7 16 = .ptr 4 0 0 0 := by rw [u 16 (by decide), t16]
  have g1 : ∀ o : Ob, (H7.set 0 o)[1]? = some z1 := fun o => by rw [List.getElem?_set_ne (by decide)]; exact k1
  have g4 : ∀ o : Ob, (H7.set 0 o)[4]? = some (oRn p m (n - m)) := fun o => by rw [List.getElem?_set_ne (by decide)]; exact hr4
  have g2 : ∀ o o' : Ob, ((H7.set 0 o).set 1 o')[2]? = some z1 := fun o o' => by rw [List.getElem?_set_ne (by decide), List.getElem?_set_ne (by decide)]; exact k2
  have hd := dr11_8
  simp [opsAt, opsIn, Try.f11] at hd
  have hdw := Wdraw hd
  clear hd
  have e8 : ∃ σ8, W Try.prog cfg E8 ⟨σ7, H7.set 0 ⟨0, 3, [encO o], 0⟩, 58⟩ = some (.ret, ⟨σ8, ((H7.set 0 ⟨0, 3, [encO o], 0⟩).set 1 ⟨0, 1, [I (n - m : Nat)], 0⟩).set 2 ⟨0, 1, [I 0], 0⟩, 58⟩) ∧ ∀ t, t ≤ 16 → σ8 t = σ7 t := by
    refine ⟨_, by
      conv => lhs; simp [rg, opsAt, opsIn, Try.f11, u8, u9, u10, u16, g1, g2, g4, gs0 l0, l0, l1, l2, hdw, logL, loud, isE, drawChk, op_nilp, -getElem?_pos], fun t ht => ?_⟩
    simp only [upd]
    repeat rw [if_neg (by omega)]
  obtain ⟨σ8, e8, v⟩ := e8
  have w8 : σ8 8 = .ptr 0 0 0 0 := by rw [v 8 (by decide), u8]
  have w9 : σ8 9 = .ptr 1 0 0 0 := by rw [v 9 (by decide), u9]
  have w10 : σ8 10 = .ptr 2 0 0 0 := by rw [v 10 (by decide), u10]
  have hG := hgo (.ex .ret) [cloE] _ (goes_seq (goes_W fitW e7) (goes_W fitW e8))
  refine ⟨_, callGo_defer Try.func11 ev_code rfl (.inr (.inl rfl)) hG (def_none _ _ _ _) ?_⟩
  simp [Vm.results, Try.f11, w8, w9, w10, l0, l1, l2, -getElem?_pos]
/-- it stops for want of fuel -/
theorem ev_spent (hl : (p.getD []).length < 2 ^ 63) (ha : (a.getD []).length < 2 ^ 62) (hg : good (p.getD []) = true) {f : Fr} (hf : newF (p.getD []) 0 (a.getD []) s = some f) (S : Sf (p.getD []) f) (h : evOk p a s n = true) (hr : runS (p.getD []) (n + 1) f n = none) :
    ∃ h', CallGo Try.prog 11 (evArgs p a s n) [] (.ret (.tup [encO o0, I 0, I 100])) h' := by
  have hn : (n : Int) ≤ 100000 := by unfold evOk at h; simp only [Bool.and_eq_true, decide_eq_true_eq] at h; exact h.2
  obtain ⟨σ, d, id, t8, t9, t10, t14, t16, hgo⟩ := ev_mid hl ha h
  rw [hf, Option.getD_some] at id
  have i0 := id
  obtain ⟨H7, hb, hk⟩ := run_pan hg (n + 1) f n S (by omega) hr [z3, z1, z1, ⟨0, 16, [d], 0⟩, oRn p n 0] 4 0 d id rfl (by omega)
  obtain ⟨Sx, L, Z, rfl, gS, gL, gZ⟩ := id
  have k0 : H7[0]? = some z3 := hk.2 0 (by simp) (by decide)
  have k1 : H7[1]? = some z1 := hk.2 1 (by simp) (by decide)
  have k2 : H7[2]? = some z1 := hk.2 2 (by simp) (by decide)
  have l0 := hlt k0; have l1 := hlt k1; have l2 := hlt k2
  obtain ⟨σ7, hσ7⟩ : ∃ σ7, σ7 = upd (upd σ 50 (.ptr 4 0 0 0)) 51 (frC f (encL 2 encV Sx) (encL 2 encV L) (encL 6 encSlt Z)) := ⟨_, rfl⟩
  have e7 : Goes Try.prog (rg 7 false) [cloE] ⟨σ, [z3, z1, z1, ⟨0, 16, [frC f (encL 2 encV Sx) (encL 2 encV L) (encL 6 encSlt Z)], 0⟩, oRn p n 0], 58⟩ (.pan spentD) [cloE] ⟨σ7, H7, 58⟩ := by
    refine goes_region (opsGo_steps fitW (s1 := ⟨σ7, [z3, z1, z1, ⟨0, 16, [frC f (encL 2 encV Sx) (encL 2 encV L) (encL 6 encSlt Z)], 0⟩, oRn p n 0], 58⟩) 2 0 rfl (by decide) ?_ ?_)
    · rw [hσ7]
      conv => lhs; simp [opsAt, opsIn, Try.f11, t14, t16, -getElem?_pos]
    · refine opsGo_callpan (k := 2) (o := _) (h' := H7) (g := 24) (args := [.ptr 4 0 0 0, frC f (encL 2 encV Sx) (encL 2 encV L) (encL 6 encSlt Z)]) rfl rfl ⟨_, _, [], [], [.ptr 4 0 0 0, frC f (encL 2 encV Sx) (encL 2 encV L) (encL 6 encSlt Z)], rfl, rfl, ?_, rfl, rfl⟩ hb
      rw [hσ7]; rfl
  have w8 : σ7 8 = .ptr 0 0 0 0 := by rw [hσ7]; simp [t8]
  have w9 : σ7 9 = .ptr 1 0 0 0 := by rw [hσ7]; simp [t9]
  have w10 : σ7 10 = .ptr 2 0 0 0 := by rw [hσ7]; simp [t10]
  have hG := hgo (.pan spentD) [cloE] _ (goes_stop e7 (by simp))
  refine ⟨_, callGo_defer Try.func11 ev_code rfl (.inr (.inr ⟨_, rfl⟩)) hG (def_some H7 k0 k1 k2) ?_⟩
  simp [Vm.results, Try.f11, w8, w9, w10, l0, l1, l2, -getElem?_pos]
end
end Go.Proofs.YtlpadffinfijgaaW.Rg
set_option linter.unusedVariables false
set_option linter.unusedSimpArgs false
set_option maxRecDepth 10000
namespace Go.Proofs.YtlpadffinfijgaaW.Rg
open Go.Proofs.YtlpadffinfijgaaW.Vm Go.Proofs.YtlpadffinfijgaaW.Md
open Go Go.Proofs
/-! what was encoded -/
def deI : D → Int
  | .int _ n => n
  | _ => 0
def deL {α : Type} (f : D → α) : D → Option (List α)
  | .sl _ xs _ => some (xs.map f)
  | _ => none
def deInstr : D → Instr
  | .agg [a, b, c] => ⟨deI a, deI b, deI c⟩
  | _ => ⟨0, 0, 0⟩
def deFunc : D → Fu
  | .agg [a, b, c, d] => ⟨deI a, deI b, deI c, deL deInstr d⟩
  | _ => ⟨0, 0, 0, none⟩
def deV : D → Vl
  | .agg [a, b] => ⟨deI a, deI b⟩
  | _ => v0
theorem deL_enc {α : Type} {z : Nat} {e : α → D} {f : D → α} (h : ∀ x, f (e x) = x) (l : Option (List α)) : deL f (encL z e l) = l := by
  cases l with
  | none => rfl
  | some l =>
    simp only [encL, deL, List.map_map, Option.some.injEq]
    rw [show f ∘ e = id from funext h, List.map_id]
theorem deInstr_enc (x : Instr) : deInstr (encInstr x) = x := rfl
theorem deFunc_enc (x : Fu) : deFunc (encFunc x) = x := by
  show (⟨x.arity, x.locals, x.slots, deL deInstr (encL 3 encInstr x.code)⟩ : Fu) = x
  rw [deL_enc deInstr_enc]
theorem deV_enc (v : Vl) : deV (encV v) = v := rfl
/-- what is told: how it ends, how much it takes, an error -/
def evS (p : List Fu) (a : List Vl) (s n : Int) : Ou × Nat × Int :=
  if good p && (newF p 0 a s).isSome && decide (1 ≤ n) && decide (n ≤ 100000) then
    match runS p (n.toNat + 1) ((newF p 0 a s).getD fr0) n.toNat with
    | some (o, m) => (o, n.toNat - m, 0)
    | none => (o0, 0, 100)
  else (o0, 0, 1)
@[reducible] def evD (r : Ou × Nat × Int) : D := .tup [encO r.1, I (r.2.1 : Nat), I r.2.2]
open Classical in
noncomputable def spE : List D → Option D
  | [a, b, c, d] =>
    if evArgs (deL deFunc a) (deL deV b) (deI c) (deI d) = [a, b, c, d] ∧ ((deL deFunc a).getD []).length < 2 ^ 63 ∧ ((deL deV b).getD []).length < 2 ^ 62 ∧ evOk (deL deFunc a) (deL deV b) (deI c) (deI d) = true then
      some (evD (evS ((deL deFunc a).getD []) ((deL deV b).getD []) (deI c) (deI d)))
    else none
  | _ => none
theorem new_sf {p : List Fu} {a : List Vl} {s : Int} {n : Int} {f : Fr} (hg : good p = true) (h : newF p n a s = some f) : Sf p f := by
  have h0 := h
  unfold newF at h
  split at h
  · rename_i h1
    split at h
    · cases h
    · rename_i x hx
      split at h
      · rename_i h2
        obtain ⟨k, hk⟩ : ∃ k : Nat, n = k := ⟨n.toNat, by omega⟩
        subst hk
        obtain ⟨f', e, S⟩ := new_ok hg (n := k) (by simpa using hx) h2.2.1 (List.all_eq_true.1 h2.2.2) h1.2.2.2
        rw [h0] at e
        cases e
        exact S
      · cases h
  · cases h
theorem evOk_good {p : Option (List Fu)} {a : Option (List Vl)} {s n : Int} (h : evOk p a s n = true) : good (p.getD []) = true ∧ (∃ f, newF (p.getD []) 0 (a.getD []) s = some f) ∧ 1 ≤ n ∧ n ≤ 100000 := by
  unfold evOk at h
  simp only [Bool.and_eq_true, decide_eq_true_eq] at h
  exact ⟨h.1.1.1, Option.isSome_iff_exists.1 h.1.1.2, h.1.2, h.2⟩
theorem spE_go (args : List D) (r : D) (h : spE args = some r) : ∃ d H, CallGo Try.prog 11 args [] (.ret d) H ∧ exp1 H d = some r ∧ clean r = true := by
  unfold spE at h
  split at h
  · rename_i a b c d
    split at h
    · rename_i hc
      obtain ⟨h1, h2, h3, h4⟩ := hc
      rw [← h1]
      generalize deL deFunc a = p at *
      generalize deL deV b = vs at *
      generalize deI c = s at *
      generalize deI d = n at *
      obtain ⟨hg, ⟨f, hf⟩, n1, n2⟩ := evOk_good h4
      obtain ⟨k, rfl⟩ : ∃ k : Nat, n = k := ⟨n.toNat, by omega⟩
      have e : evS (p.getD []) (vs.getD []) s k = match runS (p.getD []) (k + 1) f k with | some (o, m) => (o, k - m, 0) | none => (o0, 0, 100) := by
        unfold evS
        unfold evOk at h4
        rw [if_pos h4, hf]; rfl
      rw [e] at h
      have S := new_sf hg hf
      cases hr : runS (p.getD []) (k + 1) f k with
      | none =>
        rw [hr] at h
        simp only [Option.some.injEq] at h
        subst h
        obtain ⟨H, hgo⟩ := ev_spent h2 h3 hg hf S h4 hr
        exact ⟨_, H, hgo, by simp [evD], by simp [evD]⟩
      | some q =>
        obtain ⟨o, m⟩ := q
        rw [hr] at h
        simp only [Option.some.injEq] at h
        subst h
        obtain ⟨H, hgo⟩ := ev_end h2 h3 hg hf S h4 hr
        exact ⟨_, H, hgo, by simp [evD], by simp [evD]⟩
    · cases h
  · cases h
/-- the machine that knows what is told -/
@[reducible] noncomputable def cfgE : Cfg := cfg.plus Try.prog 11 spE
noncomputable abbrev RE : Run := W Try.prog cfgE
theorem eval_fn : FnOk Try.prog 11 := ⟨_, Try.func11, by rw [ev_code]; rfl, by decide⟩
theorem fitE : Fit Try.prog cfgE := plus_fit fitW eval_fn spE_go
/-- WHAT THE PROGRAM TELLS. -/
theorem eval_spec (p : Option (List Fu)) (a : Option (List Vl)) (s n : Int) (hl : (p.getD []).length < 2 ^ 63) (ha : (a.getD []).length < 2 ^ 62) : fnc Try.prog cfgE RE 11 (evArgs p a s n) = some (evD (evS (p.getD []) (a.getD []) s n)) := by
  rw [fnc_plus]
  cases h : evOk p a s n with
  | false =>
    have e : evS (p.getD []) (a.getD []) s n = (o0, 0, 1) := by
      unfold evS
      unfold evOk at h
      rw [if_neg (by rw [h]; decide)]
    rw [e]
    have := ev_no hl ha h
    rw [this]; rfl
  | true =>
    obtain ⟨hg, ⟨f, hf⟩, n1, n2⟩ := evOk_good h
    obtain ⟨k, rfl⟩ : ∃ k : Nat, n = k := ⟨n.toNat, by omega⟩
    have := ev_none hl ha h
    rw [this, Option.none_or]
    show spE [encProg p, encL 2 encV a, I s, I k] = _
    unfold spE
    have e1 : deL deFunc (encProg p) = p := deL_enc deFunc_enc p
    have e2 : deL deV (encL 2 encV a) = a := deL_enc deV_enc a
    simp only [e1, e2, deI]
    rw [if_pos ⟨by first | exact trivial | rfl, hl, ha, h⟩]
theorem up {g : FuncId} {args : List D} {x : D} (h : fnc Try.prog cfg R g args = some x) : fnc Try.prog cfgE RE g args = some x :=
  fnc_up (P := Try.prog) (cfg := cfg) (f := 11) (sp := spE) h
theorem rle_E : RLe R RE := W_plus (P := Try.prog) (cfg := cfg) (f := 11) (sp := spE)
theorem upb {g : FuncId} {args : List D} {h : List Ob} {x : D × List Ob} (hb : body Try.prog R g args h = some x) : body Try.prog RE g args h = some x := body_le rle_E hb
section
variable (P : Program) (cfg : Cfg) (f : FuncId) (sp : List D → Option D)
theorem plus_shared : (cfg.plus P f sp).shared = cfg.shared := by unfold Cfg.plus; rfl
theorem plus_lit : (cfg.plus P f sp).lit = cfg.lit := by unfold Cfg.plus; rfl
theorem plus_nomark : (cfg.plus P f sp).nomark = cfg.nomark := by unfold Cfg.plus; rfl
theorem plus_ext {g : FuncId} (h : g ≠ f) : (cfg.plus P f sp).ext g = cfg.ext g := by simp [Cfg.plus, h]
theorem plus_draw (ops : Array Oper) : drawInfo P (cfg.plus P f sp) ops = drawInfo P cfg ops := by unfold Cfg.plus; rfl
end
theorem cfgE_ext {g : FuncId} (h : (g == 11) = false) : cfgE.ext g = none := by
  have h : g ≠ 11 := by simpa using h
  rw [plus_ext _ _ _ _ h, cfg_ext]
end Go.Proofs.YtlpadffinfijgaaW.Rg
set_option linter.unusedVariables false
set_option linter.unusedSimpArgs false
namespace Go.Proofs.YtlpadffinfijgaaW.Rg
open Go.Proofs.YtlpadffinfijgaaW.Vm Go.Proofs.YtlpadffinfijgaaW.Md
open Go Go.Proofs
/-! fuel -/
theorem runS_lt {p : List Fu} : ∀ (g : Nat) (f : Fr) (n : Nat) (o : Ou) (m : Nat), runS p g f n = some (o, m) → m < n
  | 0, f, n, o, m, h => by cases h
  | g + 1, f, n, o, m, h => by
    unfold runS at h
    split at h
    · cases h
    · rename_i hn
      split at h
      · split at h
        · cases h
        · rename_i o2 m2 h2
          have := runS_lt g _ _ _ _ h2
          have := runS_lt g _ _ _ _ h
          omega
      · split at h
        · have := runS_lt g _ _ _ _ h
          omega
        · cases h; omega
theorem runS_up {p : List Fu} (d : Nat) : ∀ (g : Nat) (f : Fr) (n : Nat) (o : Ou) (m : Nat), runS p g f n = some (o, m) → runS p g f (n + d) = some (o, m + d)
  | 0, f, n, o, m, h => by cases h
  | g + 1, f, n, o, m, h => by
    unfold runS at h ⊢
    split at h
    · cases h
    · rename_i hn
      rw [if_neg (by omega)]
      split at h
      · rename_i h2
        rw [if_pos h2]
        split at h
        · cases h
        · rename_i o2 m2 hr
          rw [show n + d - 1 = n - 1 + d by omega, runS_up d g _ _ _ _ hr]
          exact runS_up d g _ _ _ _ h
      · rename_i h2
        rw [if_neg h2]
        split at h
        · rename_i h1
          rw [if_pos h1, show n + d - 1 = n - 1 + d by omega]
          exact runS_up d g _ _ _ _ h
        · rename_i h1
          rw [if_neg h1]
          cases h
          rw [show n + d - 1 = n - 1 + d by omega]
theorem runS_down {p : List Fu} (d : Nat) : ∀ (g : Nat) (f : Fr) (n : Nat) (o : Ou) (m : Nat), runS p g f n = some (o, m) → d ≤ m → runS p g f (n - d) = some (o, m - d)
  | 0, f, n, o, m, h, hd => by cases h
  | g + 1, f, n, o, m, h, hd => by
    have hlt := runS_lt _ _ _ _ _ h
    unfold runS at h ⊢
    split at h
    · cases h
    · rename_i hn
      rw [if_neg (by omega)]
      split at h
      · rename_i h2
        rw [if_pos h2]
        split at h
        · cases h
        · rename_i o2 m2 hr
          have := runS_lt _ _ _ _ _ h
          rw [show n - d - 1 = n - 1 - d by omega, runS_down d g _ _ _ _ hr (by omega)]
          exact runS_down d g _ _ _ _ h hd
      · rename_i h2
        rw [if_neg h2]
        split at h
        · rename_i h1
          rw [if_pos h1, show n - d - 1 = n - 1 - d by omega]
          exact runS_down d g _ _ _ _ h hd
        · rename_i h1
          rw [if_neg h1]
          cases h
          rw [show n - d - 1 = n - 1 - d by omega]
/-- with as much as it takes, and more -/
theorem runS_enough {p : List Fu} {g : Nat} {f : Fr} {n : Nat} {o : Ou} {m : Nat} (h : runS p g f n = some (o, m)) (k : Nat) (hk : n - m ≤ k) : runS p g f k = some (o, k - (n - m)) := by
  have := runS_lt _ _ _ _ _ h
  by_cases hn : n ≤ k
  · have e := runS_up (k - n) g f n o m h
    rw [show n + (k - n) = k by omega, show m + (k - n) = k - (n - m) by omega] at e
    exact e
  · have e := runS_down (n - k) g f n o m h (by omega)
    rw [show n - (n - k) = k by omega, show m - (n - k) = k - (n - m) by omega] at e
    exact e
/-- with less it does not end -/
theorem runS_less {p : List Fu} {g : Nat} {f : Fr} {n : Nat} {o : Ou} {m : Nat} (h : runS p g f n = some (o, m)) (k : Nat) (hk : k < n - m) : runS p g f k = none := by
  cases hr : runS p g f k with
  | none => rfl
  | some q =>
    obtain ⟨o2, m2⟩ := q
    have h1 := runS_lt _ _ _ _ _ hr
    have e := runS_up (n - k) g f k o2 m2 hr
    rw [show k + (n - k) = n by omega, h] at e
    cases e
    omega

/-! programs that are run alike -/
def shI (d : Int) (x : Instr) : Instr := if x.op = 13 then ⟨x.op, x.a + d, x.b⟩ else x
theorem shI_op (d : Int) (x : Instr) : (shI d x).op = x.op := by unfold shI; split <;> rfl
theorem shI_b (d : Int) (x : Instr) : (shI d x).b = x.b := by unfold shI; split <;> rfl
theorem shI_a (d : Int) (x : Instr) (h : x.op ≠ 13) : shI d x = x := by unfold shI; rw [if_neg h]
def _root_.Go.Proofs.YtlpadffinfijgaaW.Md.Fr.sh (f : Fr) (d s : Int) : Fr := { f with fn := f.fn + d, seed := s }
structure SimP (d : Nat) (p q : List Fu) : Prop where
  len : q.length = p.length + d
  fu : ∀ (i : Nat) x, p[i]? = some x → ∃ y, q[i + d]? = some y ∧ y.arity = x.arity ∧ y.locals = x.locals ∧ y.slots = x.slots ∧ y.c = x.c.map (shI d)
  may : ∀ x ∈ p, ∀ z ∈ x.c, imay (shI d z) = true
def noRand (p : List Fu) : Prop := ∀ x ∈ p, ∀ z ∈ x.c, z.op ≠ 12
section
variable {d : Nat} {p q : List Fu} {f : Fr} {s : Int}
theorem sim_code (S : SimP d p q) {n : Nat} (hn : n < p.length) : codeOf q ((n : Int) + d) = (codeOf p n).map (shI d) := by
  have hx : p[n]? = some p[n] := List.getElem?_eq_getElem hn
  obtain ⟨y, hy, _, _, _, hc⟩ := S.fu n _ hx
  unfold codeOf
  rw [show ((n : Int) + d).toNat = n + d by omega, hy, show ((n : Int)).toNat = n by omega, hx]
  exact hc
theorem sim_off (S : SimP d p q) {x : Instr} (ha : 0 ≤ x.a) : offP q (shI d x) = offP p x := by
  unfold offP
  rw [shI_op]
  by_cases h : x.op = 13
  · rw [if_pos h, if_pos h]
    have : (shI d x).a = x.a + d := by unfold shI; rw [if_pos h]
    rw [this, show (x.a + d).toNat = x.a.toNat + d by omega]
    cases hp : p[x.a.toNat]? with
    | none =>
      have := List.getElem?_eq_none_iff.1 hp
      rw [List.getElem?_eq_none_iff.2 (by rw [S.len]; omega)]
    | some y =>
      obtain ⟨z, hz, h1, _⟩ := S.fu _ _ hp
      rw [hz, Option.map_some, Option.map_some, h1]
  · rw [if_neg h, if_neg h]
theorem sim_there (S : SimP d p q) {x : Instr} (h1 : imay x = true) (h2 : imay (shI d x) = true) (s : Int) : thereX q (f.sh d s) (shI d x) = thereX p f x := by
  unfold thereX
  rw [h1, h2, shI_op, shI_b]
  by_cases h : x.op = 13
  · have : (shI d x).a = x.a + d := by unfold shI; rw [if_pos h]
    rw [this, S.len]
    rw [if_neg (by omega), if_neg (by omega), if_pos h, if_neg (by omega), if_neg (by omega), if_pos h]
    have : decide (x.a + (d : Int) < ((p.length + d : Nat) : Int)) = decide (x.a < (p.length : Int)) := decide_eq_decide.2 (by omega)
    rw [this]; rfl
  · rw [shI_a _ _ h]; simp only [if_neg h]; rfl
theorem sim_give (i : Int) (o : Ou) : giveF (f.sh d s) i o = ((giveF f i o).1.sh d s, (giveF f i o).2) := by
  unfold giveF
  by_cases h : i < 0 ∨ (f.slots.length : Int) ≤ i ∨ (slotAt f i).state ≠ 1
  · have h' : i < 0 ∨ ((f.sh d s).slots.length : Int) ≤ i ∨ (slotAt (f.sh d s) i).state ≠ 1 := h
    rw [if_pos h, if_pos h']
  · have h' : ¬ (i < 0 ∨ ((f.sh d s).slots.length : Int) ≤ i ∨ (slotAt (f.sh d s) i).state ≠ 1) := h
    rw [if_neg h, if_neg h']
    by_cases h2 : f.state = 1 ∧ f.wait = i
    · have h3 : (f.sh d s).state = 1 ∧ (f.sh d s).wait = i := h2
      rw [if_pos h2, if_pos h3]; rfl
    · have h3 : ¬ ((f.sh d s).state = 1 ∧ (f.sh d s).wait = i) := h2
      rw [if_neg h2, if_neg h3]; rfl
theorem sim_fin : finF (f.sh d s) = finF f := rfl
def shA (d : Nat) (s : Int) (f : Fr) (c : Ac) : Ac := if c.kind = 2 then ⟨2, c.fn + d, c.slot, childI s f.spawned, c.args⟩ else c
theorem sim_run (S : SimP d p q) {x : Instr} (ha : 0 ≤ x.a) (hr : x.op ≠ 12 ∨ s = f.seed) (h17 : x.op < 17 ∧ 0 ≤ x.op) : runX q (f.sh d s) (shI d x) = ((runX p f x).1.sh d s, shA d s f (runX p f x).2) := by
  have nk : ∀ k : Int, k ≠ 2 → shA d s f (acN k) = acN k := fun k hk => by unfold shA; rw [if_neg (show ¬ (acN k).kind = 2 from hk)]
  unfold runX
  rw [shI_op]
  by_cases c16 : x.op = 16
  · rw [if_pos c16, if_pos c16, shI_a _ _ (by omega)]
    show (_, _) = (_, shA d s f (acN 4)); rw [nk 4 (by decide)]; rfl
  rw [if_neg c16, if_neg c16]
  by_cases c15 : x.op = 15
  · rw [if_pos c15, if_pos c15]
    show (_, _) = (_, shA d s f (acN 4)); rw [nk 4 (by decide)]; rfl
  rw [if_neg c15, if_neg c15]
  by_cases c13 : x.op = 13
  · rw [if_pos c13, if_pos c13]
    unfold spawnF
    rw [shI_b, sim_off S ha]
    by_cases h : (slotAt f x.b).state ≠ 0
    · have h' : (slotAt (f.sh d s) x.b).state ≠ 0 := h
      rw [if_pos h, if_pos h']
      show (_, _) = (_, shA d s f (acN 4)); rw [nk 4 (by decide)]; rfl
    · have h' : ¬ (slotAt (f.sh d s) x.b).state ≠ 0 := h
      rw [if_neg h, if_neg h']
      have : (shI d x).a = x.a + d := by unfold shI; rw [if_pos c13]
      rw [this]
      unfold shA
      rw [if_pos rfl]; rfl
  rw [if_neg c13, if_neg c13, shI_a _ _ c13]
  by_cases c14 : x.op = 14
  · rw [if_pos c14, if_pos c14]
    unfold joinF
    by_cases h1 : (slotAt f x.a).state = 1
    · have h1' : (slotAt (f.sh d s) x.a).state = 1 := h1
      rw [if_pos h1, if_pos h1']
      rw [nk 3 (by decide)]; rfl
    have h1' : ¬ (slotAt (f.sh d s) x.a).state = 1 := h1
    rw [if_neg h1, if_neg h1']
    by_cases h2 : (slotAt f x.a).state ≠ 2
    · have h2' : (slotAt (f.sh d s) x.a).state ≠ 2 := h2
      rw [if_pos h2, if_pos h2']
      show (_, _) = (_, shA d s f (acN 4)); rw [nk 4 (by decide)]; rfl
    have h2' : ¬ (slotAt (f.sh d s) x.a).state ≠ 2 := h2
    rw [if_neg h2, if_neg h2']
    by_cases h3 : (slotAt f x.a).out.trap ≠ 0
    · have h3' : (slotAt (f.sh d s) x.a).out.trap ≠ 0 := h3
      rw [if_pos h3, if_pos h3']
      show (_, _) = (_, shA d s f (acN 4)); rw [nk 4 (by decide)]; rfl
    have h3' : ¬ (slotAt (f.sh d s) x.a).out.trap ≠ 0 := h3
    rw [if_neg h3, if_neg h3', nk 1 (by decide)]; rfl
  rw [if_neg c14, if_neg c14]
  by_cases c3 : x.op = 3 ∨ x.op = 4 ∨ x.op = 5 ∨ x.op = 6
  · rw [if_pos c3, if_pos c3]
    unfold twoF
    by_cases c6 : x.op = 6
    · rw [if_pos c6, if_pos c6]
      show (match divG (a0 f 2) (a1 f 2) with | none => trapF (f.sh d s) 1 | some q => (nextF (pushF (popF (f.sh d s) 2) [q]), acN 1)) = _
      cases divG (a0 f 2) (a1 f 2) with
      | none => show (_, _) = (_, shA d s f (acN 4)); rw [nk 4 (by decide)]; rfl
      | some q => show (_, _) = (_, shA d s f (acN 1)); rw [nk 1 (by decide)]; rfl
    · rw [if_neg c6, if_neg c6, nk 1 (by decide)]; rfl
  rw [if_neg c3, if_neg c3]
  unfold plainF
  by_cases c0 : x.op = 0
  · rw [if_pos c0, if_pos c0, nk 1 (by decide)]; rfl
  rw [if_neg c0, if_neg c0]
  by_cases c1 : x.op = 1
  · rw [if_pos c1, if_pos c1, nk 1 (by decide)]; rfl
  rw [if_neg c1, if_neg c1]
  by_cases c2 : x.op = 2
  · rw [if_pos c2, if_pos c2, nk 1 (by decide)]; rfl
  rw [if_neg c2, if_neg c2]
  by_cases c7 : x.op = 7
  · rw [if_pos c7, if_pos c7, nk 1 (by decide)]; rfl
  rw [if_neg c7, if_neg c7]
  by_cases c8 : x.op = 8
  · rw [if_pos c8, if_pos c8, nk 1 (by decide)]; rfl
  rw [if_neg c8, if_neg c8]
  by_cases c9 : x.op = 9
  · rw [if_pos c9, if_pos c9, nk 1 (by decide)]; rfl
  rw [if_neg c9, if_neg c9]
  by_cases c10 : x.op = 10
  · rw [if_pos c10, if_pos c10, nk 1 (by decide)]; rfl
  rw [if_neg c10, if_neg c10]
  by_cases c11 : x.op = 11
  · rw [if_pos c11, if_pos c11, nk 1 (by decide)]
    by_cases hz : (a0 f 1).red = v0
    · have hz' : (a0 (f.sh d s) 1).red = v0 := hz
      rw [if_pos hz, if_pos hz']; rfl
    · have hz' : ¬ (a0 (f.sh d s) 1).red = v0 := hz
      rw [if_neg hz, if_neg hz']; rfl
  rw [if_neg c11, if_neg c11, nk 1 (by decide)]
  have hs : s = f.seed := by rcases hr with h | h; · omega
                             · exact h
  subst hs
  rfl
theorem imay_all {p : List Fu} (hg : good p = true) {x : Fu} (hx : x ∈ p) {z : Instr} (hz : z ∈ x.c) : imay z = true := fmay_all (mayP_f (good_iff.1 hg).1 hx) z hz
theorem sim_do (hg : good p = true) (S : SimP d p q) (hf : 0 ≤ f.fn ∧ f.fn < p.length) (hr : noRand p ∨ s = f.seed) : doF q (f.sh d s) = ((doF p f).1.sh d s, shA d s f (doF p f).2) := by
  have nk : ∀ k : Int, k ≠ 2 → shA d s f (acN k) = acN k := fun k hk => by unfold shA; rw [if_neg (show ¬ (acN k).kind = 2 from hk)]
  obtain ⟨n, hn⟩ : ∃ n : Nat, f.fn = n := ⟨f.fn.toNat, by omega⟩
  have hnl : n < p.length := by omega
  have hc : codeOf q (f.sh d s).fn = (codeOf p f.fn).map (shI d) := by
    show codeOf q (f.fn + d) = _
    rw [hn]; exact sim_code S hnl
  have hm : ∀ z ∈ codeOf p f.fn, imay z = true ∧ imay (shI d z) = true ∧ (noRand p → z.op ≠ 12) := fun z hz => by
    unfold codeOf at hz
    rw [hn, Int.toNat_natCast, List.getElem?_eq_getElem hnl, Option.map_some, Option.getD_some] at hz
    exact ⟨imay_all hg (List.getElem_mem hnl) hz, S.may _ (List.getElem_mem hnl) z hz, fun h => h _ (List.getElem_mem hnl) z hz⟩
  unfold doF
  by_cases h0 : f.state ≠ 0
  · rw [if_pos (.inl h0), if_pos (.inl (show (f.sh d s).state ≠ 0 from h0)), nk 0 (by decide)]
  · have h0' : ¬ (f.sh d s).state ≠ 0 := h0
    have e1 : ¬ ((f.sh d s).fn < 0) := by show ¬ (f.fn + d < 0); omega
    have e2 : ¬ ((q.length : Int) ≤ (f.sh d s).fn) := by show ¬ ((q.length : Int) ≤ f.fn + d); rw [S.len]; omega
    rw [if_neg (by rintro (h | h | h); exact h0' h; exact e1 h; exact e2 h), if_neg (by rintro (h | h | h); exact h0 h; omega; omega)]
    have hi : instrAt q (f.sh d s) = (instrAt p f).map (shI d) := by
      unfold instrAt
      rw [hc]
      show (if 0 ≤ f.pc then match ((codeOf p f.fn).map (shI d))[f.pc.toNat]? with | some x => if thereX q (f.sh d s) x then some x else none | none => none else none) = _
      split
      · rw [List.getElem?_map]
        cases hz : (codeOf p f.fn)[f.pc.toNat]? with
        | none => rfl
        | some z =>
          obtain ⟨m1, m2, _⟩ := hm z (List.mem_of_getElem? hz)
          simp only [Option.map_some]
          rw [sim_there S m1 m2]
          split <;> rfl
      · rfl
    rw [hi]
    cases hz : instrAt p f with
    | none => show (_, _) = (_, shA d s f (acN 4)); rw [nk 4 (by decide)]; rfl
    | some z =>
      have hmem : z ∈ codeOf p f.fn := by
        unfold instrAt at hz
        split at hz
        · split at hz
          · rename_i y hy
            split at hz
            · cases hz; exact List.mem_of_getElem? hy
            · cases hz
          · cases hz
        · cases hz
      obtain ⟨m1, m2, m3⟩ := hm z hmem
      have ha := imay_a m1
      have hi := imay_iff.1 m1
      simp only [Option.map_some]
      have hroom : roomX q (f.sh d s) (shI d z) = roomX p f z := by
        unfold roomX
        rw [sim_off S (by omega), shI_op]; rfl
      rw [hroom]
      split
      · exact sim_run S (by omega) (hr.imp m3 id) (by omega)
      · show (_, _) = (_, shA d s f (acN 4)); rw [nk 4 (by decide)]; rfl
theorem sim_new (S : SimP d p q) (hq : mayP q = true) {n : Int} {a : List Vl} {s s' : Int} {f : Fr} (h : newF p n a s = some f) (hs : isS s' = true) : newF q (n + d) a s' = some (f.sh d s') := by
  unfold newF at h
  split at h
  · rename_i h1
    split at h
    · cases h
    · rename_i x hx
      split at h
      · rename_i h2
        cases h
        obtain ⟨y, hy, y1, y2, y3, _⟩ := S.fu _ _ hx
        unfold newF
        rw [if_pos ⟨hq, by omega, by rw [S.len]; omega, hs⟩, show (n + d).toNat = n.toNat + d by omega, hy]
        simp only
        rw [if_pos (by rw [y1, y2]; exact h2), y2, y3]
        rfl
      · cases h
  · cases h
theorem sf_fn {p : List Fu} {f : Fr} (S : Sf p f) : 0 ≤ f.fn ∧ f.fn < p.length := by
  obtain ⟨n, x, seen, hx, I, _⟩ := S.ex
  have := (List.getElem?_eq_some_iff.1 hx).1
  rw [I.fn]; omega
theorem give_seed (f : Fr) (i : Int) (o : Ou) : (giveF f i o).1.seed = f.seed := by
  unfold giveF
  split
  · rfl
  · simp only
    split <;> rfl
/-- PROGRAMS THAT ARE RUN ALIKE. -/
theorem runS_sim (hg : good p = true) (hq : mayP q = true) (S : SimP d p q) : ∀ (g : Nat) (f : Fr) (n : Nat) (s : Int), Sf p f → noRand p ∨ s = f.seed → runS q g (f.sh d s) n = runS p g f n
  | 0, f, n, s, hf, hr => rfl
  | g + 1, f, n, s, hf, hr => by
    have hd := sim_do hg S (sf_fn hf) hr
    have hst := still_do p f
    unfold runS
    by_cases hn : n = 0
    · rw [if_pos hn, if_pos hn]
    rw [if_neg hn, if_neg hn, hd]
    dsimp only
    rcases sf_do hg hf with ⟨h4, h5, h6, h7, h8⟩ | ⟨h1, h5⟩ | ⟨h2, ⟨ch, hc, hS⟩, h5⟩
    · have e : shA d s f (doF p f).2 = (doF p f).2 := by unfold shA; rw [if_neg (by omega)]
      rw [e, if_neg (by omega), if_neg (by omega), if_neg (by omega), if_neg (by omega)]
      rfl
    · have e : shA d s f (doF p f).2 = (doF p f).2 := by unfold shA; rw [if_neg (by omega)]
      rw [e, if_neg (by omega), if_pos h1, if_neg (by omega), if_pos h1]
      exact runS_sim hg hq S g _ _ _ h5 (hr.imp id fun h => by rw [h, hst.seed])
    · obtain ⟨y, _, _, _, hcc⟩ := spawn_do h2
      have e : shA d s f (doF p f).2 = ⟨2, (doF p f).2.fn + d, (doF p f).2.slot, childI s f.spawned, (doF p f).2.args⟩ := by unfold shA; rw [if_pos h2]
      rw [e, if_pos rfl, if_pos h2]
      simp only
      rw [sim_new S hq hc (childS s f.spawned), hc, Option.getD_some, Option.getD_some]
      have hs2 : (doF p f).2.seed = childI f.seed f.spawned := by rw [hcc]
      have hseed : ch.seed = (doF p f).2.seed := by
        unfold newF at hc
        split at hc
        · split at hc
          · cases hc
          · split at hc
            · cases hc; rfl
            · cases hc
        · cases hc
      rw [runS_sim hg hq S g ch _ _ hS (hr.imp id fun h => by rw [hseed, hs2, h])]
      cases hrc : runS p g ch (n - 1) with
      | none => rfl
      | some r =>
        obtain ⟨o, m⟩ := r
        simp only
        obtain ⟨k1, _⟩ := runS_ok hg _ _ _ _ _ hS hrc
        rw [sim_give]
        exact runS_sim hg hq S g _ _ _ (h5 o k1) (hr.imp id fun h => by rw [give_seed, hst.seed, h])
end
end Go.Proofs.YtlpadffinfijgaaW.Rg
