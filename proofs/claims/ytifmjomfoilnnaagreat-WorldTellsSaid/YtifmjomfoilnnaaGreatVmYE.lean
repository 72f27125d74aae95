/- New frames. No conditions. -/
import Derived.Test.YtifmjomfoilnnaaGreatVmYB
import Derived.Test.YtifmjomfoilnnaaGreatVmXF
set_option linter.unusedVariables false
set_option linter.unusedSimpArgs false
set_option maxRecDepth 10000
namespace Go.Proofs.YtifmjomfoilnnaaGreatW.Rg
open Go.Proofs.YtifmjomfoilnnaaGreatW.Vm Go.Proofs.YtifmjomfoilnnaaGreatW.Md
open Go Go.Proofs
theorem eq_val (s t : Operand) (x y : Vl) : binD Tryz.prog .eql 38 s t (encV x) (encV y) = some (.bool (decide (x = y))) := by
  obtain ⟨a, b⟩ := x
  obtain ⟨c, d⟩ := y
  simp [binD, scal, eqD, ft38, scalsEq, scalEq]
  by_cases h1 : a = c <;> by_cases h2 : b = d <;> simp [h1, h2]
theorem noRef_spec : fnc Tryz.prog cfg R 66 [] = some (encRf noK) := by
  rw [fnc_at rfl, body_eq Tryz.func66 rfl rfl]
  simp [argsσ, Vm.results, noK]
theorem rest_mod (n : Int) : (IntKind.i64.wrap (n.tmod 251 + 251)).tmod 251 = n % 251 := by
  have h := Int.tmod_lt_of_pos n (show (0 : Int) < 251 by decide)
  have h2 : -251 < n.tmod 251 := by
    by_cases h0 : 0 ≤ n
    · have := Int.tmod_nonneg 251 h0; omega
    · have e : n.tmod 251 = -((-n).tmod 251) := by rw [Int.neg_tmod]; omega
      have := Int.tmod_lt_of_pos (-n) (show (0 : Int) < 251 by decide)
      omega
  rw [wr (by omega) (by omega), Int.tmod_eq_emod_of_nonneg (by omega)]
  have e := Int.tmod_add_mul_tdiv n 251
  omega
theorem grest_spec (n : Int) : fnc Tryz.prog cfg R 97 [I n] = some (I (n % 251)) := by
  rw [fnc_at rfl, body_eq Tryz.func97 rfl rfl]
  have b1 := bin_rem Tryz.prog 3 (.tmp 3) (.const (.int .i64 251)) .i64 n 251 (by decide)
  have b2 := bin_rem Tryz.prog 3 (.tmp 5) (.const (.int .i64 251)) .i64 (IntKind.i64.wrap (n.tmod 251 + 251)) 251 (by decide)
  rw [rest_mod] at b2
  simp [argsσ, Vm.results, b1, b2]
theorem gmay_spec (v : Vl) : fnc Tryz.prog cfg R 65 [encV v] = some (.bool v.may) := by
  rw [fnc_at rfl, body_eq Tryz.func65 rfl rfl]
  have h1 := grest_spec v.re; have h2 := grest_spec v.im
  have hd := dr65_1
  simp [opsAt, opsIn, Tryz.f65] at hd
  have hdw := Wdraw0 hd
  clear hd
  have e : v.may = (decide (v.re = v.re % 251) && decide (v.im = v.im % 251)) := by
    unfold Vl.may
    rw [Bool.eq_iff_iff]; simp only [Bool.and_eq_true, decide_eq_true_eq]; omega
  rw [e]
  have hq := fun s t => eq_val s t v ⟨v.re % 251, v.im % 251⟩
  have e2 : decide (v = ⟨v.re % 251, v.im % 251⟩) = (decide (v.re = v.re % 251) && decide (v.im = v.im % 251)) := by
    obtain ⟨a, b⟩ := v
    rw [Bool.eq_iff_iff]; simp
  rw [e2] at hq
  simp [argsσ, Vm.results, h1, h2, hdw, hq]
/-- a frame as a value -/
def IsF (d : D) (f : Fr) : Prop := ∃ a b c, d = frC f (encL 2 encV a) (encL 2 encV b) (encL 6 encSlt c) ∧ a.getD [] = f.stack ∧ b.getD [] = f.locals ∧ c.getD [] = f.slots
theorem idx_loop_val (c : Option (List Vl)) (p : Vl → Bool) (g : Nat) (ca : List D) (hca : cleans ca = true) (hlz : lzs ca = true) (hsh : cfg.shared g = false) (hg : ∀ x, fnc Tryz.prog cfg R g (encV x :: ca) = some (.bool (p x))) (hl : (c.getD []).length < 2 ^ 63) {X : Type} (K : Ex × St → Option X) (x : X) : ∀ (rest : List Vl) (i : Nat) (σ : Nat → D), (c.getD []).drop i = rest →
    σ 0 = encL 2 encV c → σ 1 = .clo (.func g) [] ca → σ 7 = I (c.getD []).length → σ 8 = I i →
    (∀ σ' (j : Nat), idxF p rest i = some j → σ' 4 = I j → K (.ret, ⟨σ', [], 19⟩) = some x) → (∀ σ', idxF p rest i = none → K (.exit 0, ⟨σ', [], 19⟩) = some x) →
    (W Tryz.prog cfg (.loop (loopAt Tryz.f96 2)) ⟨σ, [], 19⟩).bind K = some x
  | [], i, σ, hd, s0, s1, s7, s8, hr, he => by
    have hi : ¬ (i < (c.getD []).length) := by have := congrArg List.length hd; simp at this; omega
    rw [Wloop]
    conv => lhs; arg 1; arg 1; simp [loopAt, loopIn, headId, Tryz.f96, s7, s8, hi]
    exact he _ rfl
  | y :: rest, i, σ, hd, s0, s1, s7, s8, hr, he => by
    obtain ⟨hg1, hd1, hi⟩ := drop_get hd
    have hlt : decide (i < (c.getD []).length) = true := dt hi
    have hx := idxD_nat .i64 hi
    have hw : IntKind.i64.wrap ((i : Int) + 1) = ((i + 1 : Nat) : Int) := wr (by omega) (by omega)
    have hgy := hg y
    have hcc : clean (.clo (.func g) [] ca) = true := by simp [hca]
    cases hp : p y with
    | true =>
      rw [hp] at hgy
      rw [Wloop]
      conv => lhs; arg 1; arg 1; simp [loopAt, loopIn, headId, Tryz.f96, s0, s1, s7, s8, hlt, hx, hg1, hgy, hw, hsh, hca, hlz, exps_clean hca hlz, markss_clean hca]
      exact hr _ i (by simp [idxF, hp]) (by simp)
    | false =>
      rw [hp] at hgy
      rw [Wloop]
      conv => lhs; arg 1; arg 1; simp [loopAt, loopIn, headId, Tryz.f96, s0, s1, s7, s8, hlt, hx, hg1, hgy, hw, hsh, hca, hlz, exps_clean hca hlz, markss_clean hca]
      rw [Option.bind_some, loopK_normal]
      refine idx_loop_val c p g ca hca hlz hsh hg hl K x rest (i + 1) _ hd1 (by simp [s0]) (by simp [s1]) (by simp [s7]) (by simp) ?_ ?_
      · intro σ' j h1 h2; exact hr σ' j (by simp [idxF, hp, h1]) h2
      · intro σ' h1; exact he σ' (by simp [idxF, hp, h1])
theorem index_val (c : Option (List Vl)) (p : Vl → Bool) (g : Nat) (ca : List D) (hca : cleans ca = true) (hlz : lzs ca = true) (hsh : cfg.shared g = false) (hg : ∀ x, fnc Tryz.prog cfg R g (encV x :: ca) = some (.bool (p x))) (hl : (c.getD []).length < 2 ^ 63) :
    fnc Tryz.prog cfg R 96 [encL 2 encV c, .clo (.func g) [] ca] = some (I (idxI p (c.getD []))) := by
  rw [fnc_at rfl, body_eq Tryz.func96 rfl rfl]
  simp [argsσ, Option.bind_assoc]
  refine idx_loop_val c p g ca hca hlz hsh hg hl _ _ (c.getD []) 0 _ (by simp) (by simp [argsσ]) (by simp [argsσ]) (by simp) (by simp) ?_ ?_
  · intro σ' j h1 h2; simp [h2, Vm.results, idxI, h1]
  · intro σ' h1; simp [Vm.results, idxI, h1]
theorem contains_val (c : Option (List Vl)) (p : Vl → Bool) (g : Nat) (ca : List D) (hca : cleans ca = true) (hlz : lzs ca = true) (hsh : cfg.shared g = false) (hg : ∀ x, fnc Tryz.prog cfg R g (encV x :: ca) = some (.bool (p x))) (hl : (c.getD []).length < 2 ^ 63) :
    fnc Tryz.prog cfg R 63 [encL 2 encV c, .clo (.func g) [] ca] = some (.bool ((c.getD []).any p)) := by
  have h := index_val c p g ca hca hlz hsh hg hl
  have he := idxI_any p (c.getD [])
  rw [fnc_at rfl, body_eq Tryz.func63 rfl rfl]
  have hcc : clean (.clo (.func g) [] ca) = true := by simp [hca]
  simp [argsσ, Vm.results, h, hca, hlz, exps_clean hca hlz, markss_clean hca, he]
theorem new1_spec (v : Vl) : fnc Tryz.prog cfg R 64 [encV v] = some (.bool (!v.may)) := by
  rw [fnc_at rfl, body_eq Tryz.func64 rfl rfl]
  have h := gmay_spec v
  simp [argsσ, Vm.results, h]
theorem any_may (l : List Vl) : l.any (fun x => !x.may) = !l.all Vl.may := by
  induction l with
  | nil => rfl
  | cons x l ih => simp [ih]
theorem new_spec (p : Option (List Fu)) (hl : (p.getD []).length < 2 ^ 63) (fn : Int) (args : Option (List Vl)) (s : Int) (ha : (args.getD []).length < 2 ^ 62) :
    ∃ d, fnc Tryz.prog cfg R 33 [encProg p, I fn, encL 2 encV args, I s] = some (.tup [d, .bool (newF (p.getD []) fn (args.getD []) s).isSome]) ∧ IsF d ((newF (p.getD []) fn (args.getD []) s).getD fr0) := by
  have hM := may_spec p hl
  have zz : IsF zF fr0 := ⟨none, none, none, rfl, rfl, rfl, rfl⟩
  have hC := contains_val args (fun x => !x.may) 64 [] rfl rfl rfl new1_spec (by omega)
  rw [any_may] at hC
  have no : newF (p.getD []) fn (args.getD []) s = none → (fnc Tryz.prog cfg R 33 [encProg p, I fn, encL 2 encV args, I s] = some (.tup [zF, .bool false])) → ∃ d, fnc Tryz.prog cfg R 33 [encProg p, I fn, encL 2 encV args, I s] = some (.tup [d, .bool (newF (p.getD []) fn (args.getD []) s).isSome]) ∧ IsF d ((newF (p.getD []) fn (args.getD []) s).getD fr0) := by
    intro h1 h2; rw [h1]; exact ⟨zF, h2, zz⟩
  cases k1 : mayP (p.getD [])
  · refine no (by unfold newF; rw [if_neg (fun h => by rw [k1] at h; cases h.1)]) ?_
    rw [k1] at hM
    rw [fnc_at rfl, body_eq Tryz.func33 rfl rfl]
    simp [argsσ, Vm.results, hM]
  rw [k1] at hM
  cases k2 : decide (fn < 0)
  case true =>
    refine no (by unfold newF; rw [if_neg (fun h => by have := of_decide_eq_true k2; have := h.2.1; omega)]) ?_
    rw [fnc_at rfl, body_eq Tryz.func33 rfl rfl]
    simp [argsσ, Vm.results, hM, k2]
  have m2 := of_decide_eq_false k2
  cases k3 : decide (((p.getD []).length : Int) ≤ fn)
  case true =>
    refine no (by unfold newF; rw [if_neg (fun h => by have := of_decide_eq_true k3; have := h.2.2.1; omega)]) ?_
    rw [fnc_at rfl, body_eq Tryz.func33 rfl rfl]
    simp [argsσ, Vm.results, hM, k2, k3]
  have m3 := of_decide_eq_false k3
  cases k4 : decide (s < 0)
  case true =>
    refine no (by unfold newF; rw [if_neg (fun h => by have := of_decide_eq_true k4; have := h.2.2.2; unfold isS at this; simp at this; omega)]) ?_
    rw [fnc_at rfl, body_eq Tryz.func33 rfl rfl]
    simp [argsσ, Vm.results, hM, k2, k3, k4]
  cases k5 : decide (4294967295 < s)
  case true =>
    refine no (by unfold newF; rw [if_neg (fun h => by have := of_decide_eq_true k5; have := h.2.2.2; unfold isS at this; simp at this; omega)]) ?_
    rw [fnc_at rfl, body_eq Tryz.func33 rfl rfl]
    simp [argsσ, Vm.results, hM, k2, k3, k4, k5]
  have hs : isS s = true := by unfold isS; have := of_decide_eq_false k4; have := of_decide_eq_false k5; exact decide_eq_true (by omega)
  obtain ⟨n, rfl⟩ : ∃ n : Nat, fn = n := ⟨fn.toNat, by omega⟩
  have k3' : decide ((p.getD []).length ≤ n) = false := df (by omega)
  have hn : n < (p.getD []).length := by omega
  have hix := idxD_nat .i64 hn
  have hg : (p.getD [])[n]? = some (p.getD [])[n] := List.getElem?_eq_getElem hn
  have hfm := mayP_f k1 (List.getElem_mem hn)
  have hh := fmay_head hfm
  have hnew : newF (p.getD []) n (args.getD []) s = if (p.getD [])[n].arity ≤ (p.getD [])[n].locals ∧ ((args.getD []).length : Int) = (p.getD [])[n].arity ∧ (args.getD []).all Vl.may = true then
        some ⟨n, 0, [], args.getD [] ++ List.replicate ((p.getD [])[n].locals.toNat - (args.getD []).length) v0, List.replicate (p.getD [])[n].slots.toNat s0, s, 0, 0, 0, 0, o0, noK, 0⟩ else none := by
    unfold newF
    rw [if_pos ⟨k1, by omega, by omega, hs⟩, Int.toNat_natCast, hg]
  generalize (p.getD [])[n] = x at *
  cases j1 : decide (x.locals < x.arity)
  case true =>
    refine no (by rw [hnew, if_neg (fun h => by have := of_decide_eq_true j1; omega)]) ?_
    rw [fnc_at rfl, body_eq Tryz.func33 rfl rfl]
    simp [argsσ, Vm.results, hM, k2, k3', k4, k5, hix, hg, j1]
  have n1 := of_decide_eq_false j1
  cases j2 : decide (((args.getD []).length : Int) = x.arity)
  case false =>
    refine no (by rw [hnew, if_neg (fun h => (of_decide_eq_false j2) h.2.1)]) ?_
    rw [fnc_at rfl, body_eq Tryz.func33 rfl rfl]
    simp [argsσ, Vm.results, hM, k2, k3', k4, k5, hix, hg, j1, j2]
  have n2 := of_decide_eq_true j2
  cases j3 : (args.getD []).all Vl.may
  case false =>
    refine no (by rw [hnew, if_neg (fun h => by rw [j3] at h; cases h.2.2)]) ?_
    rw [j3] at hC
    rw [fnc_at rfl, body_eq Tryz.func33 rfl rfl]
    simp [argsσ, Vm.results, hM, k2, k3', k4, k5, hix, hg, j1, j2, hC]
  rw [j3] at hC
  rw [hnew, if_pos ⟨by omega, n2, j3⟩]
  obtain ⟨l, hl'⟩ : ∃ l : Nat, x.locals = l := ⟨x.locals.toNat, by have := hh.2.2.1; omega⟩
  obtain ⟨q, hq'⟩ : ∃ q : Nat, x.slots = q := ⟨x.slots.toNat, by have := hh.2.2.2.2.1; omega⟩
  have hl16 : l ≤ 16 := by have := hh.2.2.2.1; omega
  have hq8 : q ≤ 8 := by have := hh.2.2.2.2.2; omega
  have hal : (args.getD []).length ≤ l := by omega
  refine ⟨frC ⟨n, 0, [], args.getD [] ++ List.replicate (l - (args.getD []).length) v0, List.replicate q s0, s, 0, 0, 0, 0, o0, noK, 0⟩ .snil (encL 2 encV (some (args.getD [] ++ List.replicate (l - (args.getD []).length) v0))) (encL 6 encSlt (some (List.replicate q s0))), ?_, ?_⟩
  · have mk1 := fun (h : List Ob) => mk_slice (P := Tryz.prog) el24 sz38 by38 ze38 (by simp) (by decide) (by decide) h .i64 .i64 l l (by omega) (by omega) (by omega)
    have mk2 := fun (h : List Ob) => mk_slice (P := Tryz.prog) el58 sz98 by98 ze98 (by simp) (by decide) (by decide) h .i64 .i64 q q (by omega) (by omega) (by omega)
    simp only [Int.toNat_natCast] at mk1 mk2
    have r1 : List.replicate l (D.agg [.int .i64 0, .int .i64 0]) = (List.replicate l v0).map encV := by simp [v0]
    have r2 : List.replicate q (D.agg [.int .i64 0, .int .i64 0, .int .i64 0, .int .i64 0, .int .i64 0, .int .i64 0]) = (List.replicate q s0).map encSlt := by simp [s0, o0, v0]
    rw [r1] at mk1
    rw [r2] at mk2
    have cp : ∀ (a b : Ob), ∃ k : D, cpN 2 [a, b, ⟨0, 2, (List.replicate l v0).map encV, 0⟩] (.own 2 2 0 0 l) (Nat.min (args.getD []).length l) ((args.getD []).map encV) = some (k, [a, b, ⟨0, 2, (args.getD [] ++ List.replicate (l - (args.getD []).length) v0).map encV, 0⟩]) := by
      intro a b
      have hm : Nat.min (args.getD []).length l = (args.getD []).length := Nat.min_eq_left hal
      rw [hm]
      unfold cpN
      by_cases h0 : (args.getD []).length = 0
      · rw [if_pos h0]
        have : args.getD [] = [] := List.length_eq_zero_iff.1 h0
        rw [this]; exact ⟨.int .i64 0, by simp⟩
      · rw [if_neg h0]
        refine ⟨.int .i64 (args.getD []).length, ?_⟩
        simp
        rw [List.take_of_length_le (by simp)]
    simp only [← hl'] at mk1
    simp only [← hq'] at mk2
    obtain ⟨kk, cp⟩ := cp ⟨0, 16, [zF], 0⟩ ⟨0, 4, [encFunc x], 0⟩
    have hnr := noRef_spec
    simp only [encRf, noK] at hnr
    have hd := dr33_8
    simp [opsAt, opsIn, Tryz.f33] at hd
    have hdw := Wdraw hd
    clear hd
    have cl1 := cl_vals (args.getD [] ++ List.replicate (l - (args.getD []).length) v0)
    have cl2 := cl_slts (List.replicate q s0)
    have hlen : (args.getD []).length + (l - (args.getD []).length) = l := by omega
    have tk1 : ((args.getD [] ++ List.replicate (l - (args.getD []).length) v0).map encV).take l = (args.getD [] ++ List.replicate (l - (args.getD []).length) v0).map encV := List.take_of_length_le (by simp; omega)
    have tk2 : ((List.replicate q s0).map encSlt).take q = (List.replicate q s0).map encSlt := List.take_of_length_le (by simp)
    rw [fnc_at rfl, body_eq Tryz.func33 rfl rfl]
    simp [argsσ, Vm.results, hM, k2, k3', k4, k5, hix, hg, j1, j2, hC, mk1, mk2, cp, hnr, hdw, exp_own, elsOf_own, hlen, tk1, tk2, cl1, cl2, ownK_clean, logL, loud, isE, drawChk, -List.map_append, -List.map_replicate]
    simp [encL, o0, v0, noK]
  · exact ⟨none, some _, some _, rfl, rfl, by rw [hl']; simp, by rw [hq']; simp⟩
theorem rMay_spec (v : Vl) : fnc Tryz.prog cfg R 53 [encV v] = some (.bool v.may) := by
  unfold Vl.may
  rw [fnc_at rfl, body_eq Tryz.func53 rfl rfl]
  cases k1 : decide (0 ≤ v.re)
  · simp [argsσ, Vm.results, k1]
  cases k2 : decide (v.re < 251)
  · simp [argsσ, Vm.results, k1, k2]
  cases k3 : decide (0 ≤ v.im)
  · simp [argsσ, Vm.results, k1, k2, k3]
  simp [argsσ, Vm.results, k1, k2, k3]
theorem rIs_spec (n : Int) : fnc Tryz.prog cfg R 52 [I n] = some (.bool (isS n)) := by
  rw [fnc_at rfl, body_eq Tryz.func52 rfl rfl]
  have e : isS n = (decide (0 ≤ n) && decide (n < 4294967296)) := by unfold isS; rw [Bool.eq_iff_iff]; simp; omega
  rw [e]
  cases k1 : decide (0 ≤ n) <;> simp [argsσ, Vm.results, k1]
/-- a new frame's locals so far -/
def nfL (fn s : Int) (l : List Vl) : Fr := ⟨fn, 0, [], l, [], s, 0, 0, 0, 0, o0, ⟨-1, 0⟩, 0⟩
def wsOf (a : List Vl) (l : Nat) : List Vl := a ++ List.replicate (l - a.length) v0
theorem ws_get {a : List Vl} {l i : Nat} (hal : a.length ≤ l) (hi : i < l) : (wsOf a l)[i]? = some ((a[i]?).getD v0) := by
  unfold wsOf
  by_cases h : i < a.length
  · rw [List.getElem?_append_left h, List.getElem?_eq_getElem h]; rfl
  · rw [List.getElem?_append_right (by omega), List.getElem?_eq_none (l := a) (by omega), List.getElem?_replicate, if_pos (by omega)]
    rfl
theorem ws_len {a : List Vl} {l : Nat} (hal : a.length ≤ l) : (wsOf a l).length = l := by unfold wsOf; simp; omega
theorem ws_all (a : List Vl) (l : Nat) : (wsOf a l).all Vl.may = a.all Vl.may := by
  unfold wsOf
  rw [List.all_append]
  have : (List.replicate (l - a.length) v0).all Vl.may = true := List.all_eq_true.2 fun x hx => by rw [(List.mem_replicate.1 hx).2]; decide
  rw [this, Bool.and_true]
theorem take_succ' {α : Type} {l : List α} {i : Nat} {x : α} (h : l[i]? = some x) : l.take (i + 1) = l.take i ++ [x] := by
  rw [List.take_add_one, h]; rfl
theorem rnew1 (args : Option (List Vl)) (x : Fu) (fn s : Int) (l : Nat) (hx : x.locals = l) (hal : (args.getD []).length ≤ l) (hl16 : l ≤ 2 ^ 20) {X : Type} (K : Ex × St → Option X) (Q : Option X → Prop) : ∀ (rest : List Vl) (i : Nat) (σ : Nat → D) (H : List Ob) (L : D), (wsOf (args.getD []) l).drop i = rest →
    σ 2 = encL 2 encV args → σ 8 = .ptr 0 0 0 0 → σ 10 = .ptr 1 0 0 0 → σ 11 = .ptr 2 0 0 0 → σ 12 = I i → 3 ≤ H.length →
    H[0]? = some ⟨0, 16, [zF], 0⟩ → H[1]? = some ⟨0, 4, [encFunc x], 0⟩ → H[2]? = some ⟨0, 16, [frC (nfL fn s []) .snil L .snil], 0⟩ →
    IsS H 2 (((wsOf (args.getD []) l).take i).map encV) L → (∀ j, At L j → 3 ≤ j) →
    (∀ σ' H' L', (wsOf (args.getD []) l).all Vl.may = true → σ' 8 = .ptr 0 0 0 0 → σ' 10 = .ptr 1 0 0 0 → σ' 11 = .ptr 2 0 0 0 → 3 ≤ H'.length → H'[0]? = some ⟨0, 16, [zF], 0⟩ → H'[1]? = some ⟨0, 4, [encFunc x], 0⟩ → H'[2]? = some ⟨0, 16, [frC (nfL fn s []) .snil L' .snil], 0⟩ →
      IsS H' 2 ((wsOf (args.getD []) l).map encV) L' → (∀ j, At L' j → 3 ≤ j) → Q (K (.exit 0, ⟨σ', H', 93⟩))) →
    (((wsOf (args.getD []) l).take i).all Vl.may = true) →
    (∀ σ' H', (wsOf (args.getD []) l).all Vl.may = false → σ' 8 = .ptr 0 0 0 0 → σ' 9 = .bool false → H'[0]? = some ⟨0, 16, [zF], 0⟩ → Q (K (.ret, ⟨σ', H', 93⟩))) →
    Q ((W Tryz.prog cfg (.loop (loopAt Tryz.f21 8)) ⟨σ, H, 93⟩).bind K)
  | [], i, σ, H, L, hd, s2, s8, s10, s11, s12, hH, g0, g1, g2, iL, aL, hK, hm, hR => by
    have hwl := ws_len hal
    have hi : l ≤ i := by have := congrArg List.length hd; rw [List.length_drop, hwl] at this; simp at this; omega
    have htk : (wsOf (args.getD []) l).take i = wsOf (args.getD []) l := List.take_of_length_le (by omega)
    rw [htk] at iL hm
    have hlt : decide (i < l) = false := df (by omega)
    rw [Wloop]
    conv => arg 1; arg 1; arg 1; simp [loopAt, loopIn, headId, Tryz.f21, s10, s12, g1, hx, hlt, -getElem?_pos]
    exact hK _ _ _ hm (by simp [s8]) (by simp [s10]) (by simp [s11]) hH g0 g1 g2 iL aL
  | y :: rest, i, σ, H, L, hd, s2, s8, s10, s11, s12, hH, g0, g1, g2, iL, aL, hK, hm, hR => by
    have hwl := ws_len hal
    obtain ⟨hg1, hd1, hi⟩ := drop_get hd
    rw [hwl] at hi
    have hy := ws_get hal hi
    rw [hg1] at hy
    have hy := Option.some.inj hy
    have htk := take_succ' hg1
    have hlt : decide (i < l) = true := dt (by omega)
    have hw : IntKind.i64.wrap ((i : Int) + 1) = ((i + 1 : Nat) : Int) := wr (by omega) (by omega)
    have hM := rMay_spec y
    have q1 : ∀ o : Ob, (H ++ [o])[1]? = some ⟨0, 4, [encFunc x], 0⟩ := fun o => by rw [get_lt (by omega), g1]
    have q2 : ∀ o : Ob, (H ++ [o])[2]? = some ⟨0, 16, [frC (nfL fn s []) .snil L .snil], 0⟩ := fun o => by rw [get_lt (by omega), g2]
    have q0 : ∀ o : Ob, (H ++ [o])[0]? = some ⟨0, 16, [zF], 0⟩ := fun o => by rw [get_lt (by omega), g0]
    have ql : ∀ o : Ob, (H ++ [o])[H.length]? = some o := fun o => by simp
    have qs := sgx H
    have p0 : ∀ o o' : Ob, ((H ++ [o]).set 0 o')[0]? = some o' := fun o o' => List.getElem?_set_self (by simp)
    have l0 : ∀ o : Ob, 0 < (H ++ [o]).length := fun o => by simp
    obtain ⟨L', H', eA, iA, aA, pA, lA⟩ := (iL.app [⟨0, 2, [encV y], 0⟩]).pushD 16 [encV y] (by simp; omega)
    have es := (iL.app [⟨0, 2, [encV y], 0⟩]).els
    have nA := iA.one; have cA := iA.cells
    have nL := iL.one; have cL := iL.cells
    have lA' : H.length + 1 ≤ H'.length := by simpa using lA
    have r0 : H'[0]? = some ⟨0, 16, [zF], 0⟩ := by rw [pA 0 (by simp) (fun h => by have := aL 0 h; omega), q0]
    have r1 : H'[1]? = some ⟨0, 4, [encFunc x], 0⟩ := by rw [pA 1 (by simp; omega) (fun h => by have := aL 1 h; omega), q1]
    have r2 : H'[2]? = some ⟨0, 16, [frC (nfL fn s []) .snil L .snil], 0⟩ := by rw [pA 2 (by simp; omega) (fun h => by have := aL 2 h; omega), q2]
    have l2 : 2 < H'.length := by omega
    have aA' : ∀ j, At L' j → 3 ≤ j := fun j hj => by
      rcases aA j hj with h | h
      · exact aL j h
      · simp at h; omega
    have iB : ∀ o : Ob, IsS (H'.set 2 o) 2 (((wsOf (args.getD []) l).take (i + 1)).map encV) L' := fun o => by
      rw [htk, List.map_append]
      exact iA.set (fun h => by have := aA' 2 h; omega) o
    have eA' : apK 16 2 (H ++ [⟨0, 2, [.agg [I y.re, I y.im]], 0⟩]) L (((wsOf (args.getD []) l).take i).map encV) [.agg [I y.re, I y.im]] = some (L', H') := eA
    have es' : elsZ (H ++ [⟨0, 2, [.agg [I y.re, I y.im]], 0⟩]) 2 L = some (((wsOf (args.getD []) l).take i).map encV) := es
    obtain ⟨pre, hpre⟩ : ∃ pre, (wsOf (args.getD []) l).take i = pre := ⟨_, rfl⟩
    rw [hpre] at eA' es'
    have fin : ∀ σ' : Nat → D, y.may = true → σ' 2 = encL 2 encV args → σ' 8 = .ptr 0 0 0 0 → σ' 10 = .ptr 1 0 0 0 → σ' 11 = .ptr 2 0 0 0 → σ' 12 = I ((i + 1 : Nat) : Int) →
        Q ((W Tryz.prog cfg (.loop (loopAt Tryz.f21 8)) ⟨σ', H'.set 2 ⟨0, 16, [frC (nfL fn s []) .snil L' .snil], 0⟩, 93⟩).bind K) := fun σ' hm2 t2 t8 t10 t11 t12 =>
      rnew1 args x fn s l hx hal hl16 K Q rest (i + 1) σ' _ L' hd1 t2 t8 t10 t11 t12 (by simp; omega) (by rw [List.getElem?_set_ne (by omega), r0]) (by rw [List.getElem?_set_ne (by omega), r1]) (List.getElem?_set_self l2) (iB _) aA' hK (by rw [htk, List.all_append, hm]; simp [hm2]) hR
    have bad : y.may = false → (wsOf (args.getD []) l).all Vl.may = false := fun h => by
      rw [List.all_eq_false]; exact ⟨y, List.mem_of_getElem? hg1, by simp [h]⟩
    cases k1 : decide ((i : Int) < ((args.getD []).length : Int))
    · have hn : ¬ i < (args.getD []).length := fun h => by have := of_decide_eq_false k1; omega
      have hy0 : y = v0 := by rw [hy, List.getElem?_eq_none (by omega)]; rfl
      have hk1' : decide (i < (args.getD []).length) = false := df hn
      rw [hy0] at eA' es' hM
      simp only [v0] at eA' es'
      have hmy : v0.may = true := by decide
      rw [hmy] at hM
      simp only [encV, v0] at hM
      rw [Wloop]
      conv => arg 1; arg 1; arg 1; simp [loopAt, loopIn, headId, Tryz.f21, s2, s8, s10, s11, s12, g1, g2, hx, hlt, k1, hk1', q0, q1, q2, ql, qs, hM, eA', es', nA, cA, nL, cL, r0, r1, r2, l2, logL, loud, isE, drawChk, hw, nfL, -getElem?_pos]
      rw [Option.bind_some, loopK_normal]
      exact fin _ (by rw [hy0]; exact hmy) (by simp [s2]) (by simp [s8]) (by simp [s10]) (by simp [s11]) (by simp)
    · have hn : i < (args.getD []).length := by have := of_decide_eq_true k1; omega
      have hk1' : decide (i < (args.getD []).length) = true := dt hn
      have hix := idxD_nat .i64 hn
      have hg : (args.getD [])[i]? = some y := by rw [hy, List.getElem?_eq_getElem hn]; rfl
      cases km : y.may
      · rw [km] at hM
        rw [Wloop]
        conv => arg 1; arg 1; arg 1; simp [loopAt, loopIn, headId, Tryz.f21, s2, s8, s10, s11, s12, g1, g2, hx, hlt, k1, hk1', q0, q1, q2, ql, qs, hix, hg, hM, p0, l0, -getElem?_pos]
        exact hR _ _ (bad km) (by simp [s8]) (by simp) (by simp [q0])
      · rw [km] at hM
        rw [Wloop]
        conv => arg 1; arg 1; arg 1; simp [loopAt, loopIn, headId, Tryz.f21, s2, s8, s10, s11, s12, g1, g2, hx, hlt, k1, hk1', q0, q1, q2, ql, qs, hix, hg, hM, eA', es', nA, cA, nL, cL, r0, r1, r2, l2, logL, loud, isE, drawChk, hw, nfL, -getElem?_pos]
        rw [Option.bind_some, loopK_normal]
        exact fin _ km (by simp [s2]) (by simp [s8]) (by simp [s10]) (by simp [s11]) (by simp)
theorem rnew2 (x : Fu) (fn s : Int) (q : Nat) (hx : x.slots = q) (hq : q ≤ 2 ^ 20) (ws : List Vl) {X : Type} (K : Ex × St → Option X) (Q : Option X → Prop) : ∀ (k i : Nat) (σ : Nat → D) (H : List Ob) (L Z : D), i + k = q →
    σ 8 = .ptr 0 0 0 0 → σ 10 = .ptr 1 0 0 0 → σ 11 = .ptr 2 0 0 0 → σ 14 = I i → 3 ≤ H.length →
    H[0]? = some ⟨0, 16, [zF], 0⟩ → H[1]? = some ⟨0, 4, [encFunc x], 0⟩ → H[2]? = some ⟨0, 16, [frC (nfL fn s []) .snil L Z], 0⟩ →
    IsS H 2 (ws.map encV) L → (∀ j, At L j → 3 ≤ j) → IsS H 6 ((List.replicate i s0).map encSlt) Z → (∀ j, At Z j → 3 ≤ j) → (∀ j, At L j → ¬ At Z j) →
    (∀ σ' H' Z', σ' 8 = .ptr 0 0 0 0 → σ' 11 = .ptr 2 0 0 0 → 3 ≤ H'.length → H'[0]? = some ⟨0, 16, [zF], 0⟩ → H'[2]? = some ⟨0, 16, [frC (nfL fn s []) .snil L Z'], 0⟩ →
      IsS H' 2 (ws.map encV) L → (∀ j, At L j → 3 ≤ j) → IsS H' 6 ((List.replicate q s0).map encSlt) Z' → (∀ j, At Z' j → 3 ≤ j) → Q (K (.exit 2, ⟨σ', H', 93⟩))) →
    Q ((W Tryz.prog cfg (.loop (loopAt Tryz.f21 17)) ⟨σ, H, 93⟩).bind K)
  | 0, i, σ, H, L, Z, hk, s8, s10, s11, s14, hH, g0, g1, g2, iL, aL, iZ, aZ, dLZ, hK => by
    have hi : i = q := by omega
    subst hi
    have hlt : decide (i < i) = false := df (by omega)
    rw [Wloop]
    conv => arg 1; arg 1; arg 1; simp [loopAt, loopIn, headId, Tryz.f21, s10, s14, g1, hx, hlt, -getElem?_pos]
    exact hK _ _ _ (by simp [s8]) (by simp [s11]) hH g0 g2 iL aL iZ aZ
  | k + 1, i, σ, H, L, Z, hk, s8, s10, s11, s14, hH, g0, g1, g2, iL, aL, iZ, aZ, dLZ, hK => by
    have hlt : decide (i < q) = true := dt (by omega)
    have hw : IntKind.i64.wrap ((i : Int) + 1) = ((i + 1 : Nat) : Int) := wr (by omega) (by omega)
    obtain ⟨Z', H', eA, iA, aA, pA, lA⟩ := iZ.pushD 48 [encSlt s0] (by simp; omega)
    have es := iZ.els
    have nA := iA.one; have cA := iA.cells
    have nL := iL.one; have cL := iL.cells; have nZ := iZ.one; have cZ := iZ.cells
    have r0 : H'[0]? = some ⟨0, 16, [zF], 0⟩ := by rw [pA 0 (by omega) (fun h => by have := aZ 0 h; omega), g0]
    have r1 : H'[1]? = some ⟨0, 4, [encFunc x], 0⟩ := by rw [pA 1 (by omega) (fun h => by have := aZ 1 h; omega), g1]
    have r2 : H'[2]? = some ⟨0, 16, [frC (nfL fn s []) .snil L Z], 0⟩ := by rw [pA 2 (by omega) (fun h => by have := aZ 2 h; omega), g2]
    have l2 : 2 < H'.length := by omega
    have aA' : ∀ j, At Z' j → 3 ≤ j := fun j hj => by
      rcases aA j hj with h | h
      · exact aZ j h
      · omega
    have iB : ∀ o : Ob, IsS (H'.set 2 o) 6 ((List.replicate (i + 1) s0).map encSlt) Z' := fun o => by
      rw [List.replicate_succ', List.map_append]
      exact iA.set (fun h => by have := aA' 2 h; omega) o
    have iL' : ∀ o : Ob, IsS (H'.set 2 o) 2 (ws.map encV) L := fun o =>
      (iL.keep (fun j hj => pA j (iL.lt hj) (dLZ j hj))).set (fun h => by have := aL 2 h; omega) o
    have dd : ∀ j, At L j → ¬ At Z' j := fun j hj h => by
      rcases aA j h with h1 | h1
      · exact dLZ j hj h1
      · have := iL.lt hj; omega
    have eA' : apK 48 6 H Z ((List.replicate i s0).map encSlt) [.agg [I 0, I 0, I 0, I 0, I 0, I 0]] = some (Z', H') := eA
    rw [Wloop]
    conv => arg 1; arg 1; arg 1; simp [loopAt, loopIn, headId, Tryz.f21, s8, s10, s11, s14, g1, g2, hx, hlt, eA', es, nA, cA, nL, cL, nZ, cZ, r0, r1, r2, l2, logL, loud, isE, drawChk, hw, nfL, -getElem?_pos, -List.map_replicate]
    rw [Option.bind_some, loopK_normal]
    exact rnew2 x fn s q hx hq ws K Q k (i + 1) _ _ L Z' (by omega) (by simp [s8]) (by simp [s10]) (by simp [s11]) (by simp) (by simp; omega) (by rw [List.getElem?_set_ne (by omega), r0]) (by rw [List.getElem?_set_ne (by omega), r1]) (List.getElem?_set_self l2) (iL' _) aL (iB _) aA' dd hK
theorem rnew_spec (p : Option (List Fu)) (hb : Bnd (p.getD [])) (hl : (p.getD []).length < 2 ^ 63) (fn : Int) (args : Option (List Vl)) (s : Int) (ha : (args.getD []).length < 2 ^ 62) :
    ∃ d, fnc Tryz.prog cfg R 21 [encProg p, I fn, encL 2 encV args, I s] = some (.tup [d, .bool (newF (p.getD []) fn (args.getD []) s).isSome]) ∧ IsF d ((newF (p.getD []) fn (args.getD []) s).getD fr0) := by
  have hM := rmay7_spec p hb
  have hI := rIs_spec s
  have zz : IsF zF fr0 := ⟨none, none, none, rfl, rfl, rfl, rfl⟩
  have no : newF (p.getD []) fn (args.getD []) s = none → (fnc Tryz.prog cfg R 21 [encProg p, I fn, encL 2 encV args, I s] = some (.tup [zF, .bool false])) → ∃ d, fnc Tryz.prog cfg R 21 [encProg p, I fn, encL 2 encV args, I s] = some (.tup [d, .bool (newF (p.getD []) fn (args.getD []) s).isSome]) ∧ IsF d ((newF (p.getD []) fn (args.getD []) s).getD fr0) := by
    intro h1 h2; rw [h1]; exact ⟨zF, h2, zz⟩
  cases k1 : mayP (p.getD [])
  · refine no (by unfold newF; rw [if_neg (fun h => by rw [k1] at h; cases h.1)]) ?_
    rw [k1] at hM
    rw [fnc_at rfl, body_eq Tryz.func21 rfl rfl]
    simp [argsσ, Vm.results, hM]
  rw [k1] at hM
  cases k2 : decide (fn < 0)
  case true =>
    refine no (by unfold newF; rw [if_neg (fun h => by have := of_decide_eq_true k2; have := h.2.1; omega)]) ?_
    rw [fnc_at rfl, body_eq Tryz.func21 rfl rfl]
    simp [argsσ, Vm.results, hM, k2]
  have m2 := of_decide_eq_false k2
  cases k3 : decide (((p.getD []).length : Int) ≤ fn)
  case true =>
    refine no (by unfold newF; rw [if_neg (fun h => by have := of_decide_eq_true k3; have := h.2.2.1; omega)]) ?_
    rw [fnc_at rfl, body_eq Tryz.func21 rfl rfl]
    simp [argsσ, Vm.results, hM, k2, k3]
  have m3 := of_decide_eq_false k3
  cases hs : isS s
  case false =>
    refine no (by unfold newF; rw [if_neg (fun h => by rw [hs] at h; cases h.2.2.2)]) ?_
    rw [hs] at hI
    rw [fnc_at rfl, body_eq Tryz.func21 rfl rfl]
    simp [argsσ, Vm.results, hM, k2, k3, hI]
  rw [hs] at hI
  obtain ⟨n, rfl⟩ : ∃ n : Nat, fn = n := ⟨fn.toNat, by omega⟩
  have k3' : decide ((p.getD []).length ≤ n) = false := df (by omega)
  have hn : n < (p.getD []).length := by omega
  have hix := idxD_nat .i64 hn
  have hg : (p.getD [])[n]? = some (p.getD [])[n] := List.getElem?_eq_getElem hn
  have hfm := mayP_f k1 (List.getElem_mem hn)
  have hh := fmay_head hfm
  have hnew : newF (p.getD []) n (args.getD []) s = if (p.getD [])[n].arity ≤ (p.getD [])[n].locals ∧ ((args.getD []).length : Int) = (p.getD [])[n].arity ∧ (args.getD []).all Vl.may = true then
        some ⟨n, 0, [], args.getD [] ++ List.replicate ((p.getD [])[n].locals.toNat - (args.getD []).length) v0, List.replicate (p.getD [])[n].slots.toNat s0, s, 0, 0, 0, 0, o0, noK, 0⟩ else none := by
    unfold newF
    rw [if_pos ⟨k1, by omega, by omega, hs⟩, Int.toNat_natCast, hg]
  generalize (p.getD [])[n] = x at *
  cases j1 : decide (x.locals < x.arity)
  case true =>
    refine no (by rw [hnew, if_neg (fun h => by have := of_decide_eq_true j1; omega)]) ?_
    rw [fnc_at rfl, body_eq Tryz.func21 rfl rfl]
    simp [argsσ, Vm.results, hM, k2, k3', hI, hix, hg, j1]
  have n1 := of_decide_eq_false j1
  cases j2 : decide (((args.getD []).length : Int) = x.arity)
  case false =>
    refine no (by rw [hnew, if_neg (fun h => (of_decide_eq_false j2) h.2.1)]) ?_
    rw [fnc_at rfl, body_eq Tryz.func21 rfl rfl]
    simp [argsσ, Vm.results, hM, k2, k3', hI, hix, hg, j1, j2]
  have n2 := of_decide_eq_true j2
  obtain ⟨l, hl'⟩ : ∃ l : Nat, x.locals = l := ⟨x.locals.toNat, by have := hh.2.2.1; omega⟩
  obtain ⟨q, hq'⟩ : ∃ q : Nat, x.slots = q := ⟨x.slots.toNat, by have := hh.2.2.2.2.1; omega⟩
  have hl16 : l ≤ 16 := by have := hh.2.2.2.1; omega
  have hq8 : q ≤ 8 := by have := hh.2.2.2.2.2; omega
  have hal : (args.getD []).length ≤ l := by omega
  have hall := ws_all (args.getD []) l
  obtain ⟨Q, hQ⟩ : ∃ Q : Option D → Prop, Q = fun o => ∃ d, o = some (.tup [d, .bool (newF (p.getD []) n (args.getD []) s).isSome]) ∧ IsF d ((newF (p.getD []) n (args.getD []) s).getD fr0) := ⟨_, rfl⟩
  suffices h : Q (fnc Tryz.prog cfg R 21 [encProg p, I n, encL 2 encV args, I s]) by rw [hQ] at h; exact h
  rw [fnc_at rfl, body_eq Tryz.func21 rfl rfl]
  conv => arg 1; simp [argsσ, hM, k2, k3', hI, hix, hg, j1, j2, Option.bind_assoc]
  refine rnew1 args x n s l hl' hal (by omega) _ Q (wsOf (args.getD []) l) 0 _ _ .snil rfl (by simp [argsσ]) (by simp) (by simp) (by simp) (by simp) (by simp) (by simp) (by simp) (by simp [nfL, o0, v0]) (.inl ⟨rfl, by simp⟩) (fun j h => absurd h (at_snil j)) ?_ rfl ?_
  · intro σ' H' L' hm t8 t10 t11 h3 g0 g1 g2 iL aL
    conv => arg 1; simp [t8, t10, t11, Option.bind_assoc]
    refine rnew2 x n s q hq' (by omega) (wsOf (args.getD []) l) _ Q q 0 _ _ L' .snil (by omega) (by simp [t8]) (by simp [t10]) (by simp [t11]) (by simp) h3 g0 g1 g2 iL aL (.inl ⟨rfl, by simp⟩) (fun j h => absurd h (at_snil j)) (fun j _ h => absurd h (at_snil j)) ?_
    intro σ'' H'' Z' u8 u11 h3' f0 f2 jL bL jZ bZ
    have x1 := fun o : Ob => ((jL.set (fun h => by have := bL 0 h; omega) o).expO (cl_vals _)).1
    have x2 := fun o : Ob => ((jZ.set (fun h => by have := bZ 0 h; omega) o).expO (cl_slts _)).1
    have y1 := (jL.expO (cl_vals _)).2
    have y2 := (jZ.expO (cl_slts _)).2
    have m1 := jL.one; have m3 := jZ.one
    have l0 : 0 < H''.length := by omega
    rw [if_pos ⟨by omega, n2, by rw [← hall]; exact hm⟩] at hnew
    rw [hQ, hnew]
    refine ⟨frC (nfL n s []) .snil (encL 2 encV (oS (wsOf (args.getD []) l) L')) (encL 6 encSlt (oS (List.replicate q s0) Z')), ?_, ?_⟩
    · generalize oS (wsOf (args.getD []) l) L' = oo at *
      generalize oS (List.replicate q s0) Z' = ozz at *
      simp [u8, u11, f0, f2, l0, gs0 l0, x1, x2, m1, m3, Vm.results, nfL, -getElem?_pos]
    · exact ⟨none, _, _, rfl, rfl, by rw [y1]; unfold wsOf; rw [hl']; simp, by rw [y2]; rw [hq']; simp⟩
  · intro σ' H' hm t8 t9 g0
    rw [if_neg (fun h => by rw [hall, h.2.2] at hm; cases hm)] at hnew
    rw [hQ, hnew]
    refine ⟨zF, ?_, zz⟩
    simp [t8, t9, g0, Vm.results, -getElem?_pos]
end Go.Proofs.YtifmjomfoilnnaaGreatW.Rg
