/- The document's reading of texts: what a line does. No conditions. -/
import Derived.Test.YtlpadffinfijgaaVmTS2
import Derived.KernelRfl
set_option linter.unusedVariables false
set_option linter.unusedSimpArgs false
set_option maxRecDepth 100000
namespace Go.Proofs.YtlpadffinfijgaaW.Rg
open Go.Proofs.YtlpadffinfijgaaW.Vm Go.Proofs.YtlpadffinfijgaaW.Md
open Go Go.Proofs
theorem ix20 : idxD 2 (.int .i64 0) = some 0 := rfl
theorem ix21 : idxD 2 (.int .i64 1) = some 1 := rfl
theorem ix30 : idxD 3 (.int .i64 0) = some 0 := rfl
theorem ix31 : idxD 3 (.int .i64 1) = some 1 := rfl
theorem ix32 : idxD 3 (.int .i64 2) = some 2 := rfl
theorem ix40 : idxD 4 (.int .i64 0) = some 0 := rfl
theorem ix41 : idxD 4 (.int .i64 1) = some 1 := rfl
theorem ix42 : idxD 4 (.int .i64 2) = some 2 := rfl
theorem ix43 : idxD 4 (.int .i64 3) = some 3 := rfl
theorem w11 : IntKind.i64.wrap (1 - 1) = 0 := rfl
theorem w21 : IntKind.i64.wrap (2 - 1) = 1 := rfl
theorem w31 : IntKind.i64.wrap (3 - 1) = 2 := rfl
theorem w12 : IntKind.i64.wrap (1 + 1) = 2 := rfl
theorem w22 : IntKind.i64.wrap (2 + 1) = 3 := rfl
theorem w32 : IntKind.i64.wrap (3 + 1) = 4 := rfl
theorem wl0 : IntKind.i64.wrap 0 = 0 := rfl
theorem wl1 : IntKind.i64.wrap 1 = 1 := rfl
theorem wl2' : IntKind.i64.wrap 2 = 2 := rfl
theorem wl3 : IntKind.i64.wrap 3 = 3 := rfl
theorem wl4 : IntKind.i64.wrap 4 = 4 := rfl
attribute [local simp] wl0 wl1 wl2' wl3 wl4 ix20 ix21 ix30 ix31 ix32 ix40 ix41 ix42 ix43 w11 w21 w31 w12 w22 w32
theorem lay_trap {H : List Ob} {ip v m : Nat} {ds : List D} (h : H[ip]? = some ⟨v, 4, ds ++ [.agg [I 0, I 0, I 0, .snil]], 0⟩) (hm : ds.length = m) (hm2 : m < 1000) {a : Nat} (ha : 16 ≤ a ∧ a < 256) :
    ∃ j H', body Try.prog R 44 [.own 4 ip v 0 (m + 1), .str (bstr (trapL a))] H = some (.tup [.own 4 ip v 0 (m + 1), .bool true], H') ∧ H'[ip]? = some ⟨v, 4, ds ++ [.agg [I 0, I 0, I 0, .own 3 j 0 0 1]], 0⟩ ∧
      H'[j]? = some ⟨0, 3, [.agg [I 16, I a, I 0]], 0⟩ ∧ H.length ≤ j ∧ ∀ i, i < H.length → i ≠ ip → H'[i]? = H[i]? := by
  have l0 := hlt h
  have hsp := split_spec (trapL a) 32 (by unfold trapL digL; split <;> (try split) <;> simp)
  rw [trap_split ⟨a, ha.2⟩] at hsp
  simp only [List.map, show ((32 : UInt8).toNat : Int) = 32 from rfl] at hsp
  have hN := num_spec ha.2
  have hF := find_trap
  have hM := rmay6_spec ⟨16, a, 0⟩
  have him : imay ⟨16, a, 0⟩ = true := imay_iff.2 ⟨(by show (0 : Int) ≤ 16; omega), (by show (16 : Int) < 17; omega), (by show (16 : Int) ≤ a; omega), (by show (a : Int) ≤ 255; omega), (by show (0 : Int) ≤ 0; omega), (by show (0 : Int) ≤ 0; omega)⟩
  rw [him] at hM
  have hFi := fields_spec 16
  rw [show fields 16 = 1 from rfl] at hFi
  have hbs := fun dst ty pos af g st ps => op_bslice (P := Try.prog) (cfg := cfg) (run := R) dst ty pos af g st (z := 3) (n := 3) ps el51 sz3 ag3 ze3 rfl (by simp [fits_one ag3 sz3]) (by decide) (by decide)
  have hd1 := dr44_16
  simp [opsAt, opsIn, Try.f44] at hd1
  have hdw := Wdraw hd1
  clear hd1
  obtain ⟨n, hn⟩ : ∃ n : Int, n = a := ⟨_, rfl⟩
  rw [← hn] at hN hM
  have n0 : ¬ (n < 0) := by omega
  have d0 : decide (n < 0) = false := df n0
  have g0 : ∀ T : List Ob, (H ++ T)[ip]? = some ⟨v, 4, ds ++ [.agg [I 0, I 0, I 0, .snil]], 0⟩ := fun T => by rw [get_lt l0]; exact h
  have wm : IntKind.i64.wrap (((m + 1 : Nat) : Int) - 1) = (m : Int) := by rw [wr (by omega) (by omega)]; omega
  have wm2 : IntKind.i64.wrap ((m : Int) + 1 - 1) = (m : Int) := by rw [wr (by omega) (by omega)]; omega
  have wm3 : IntKind.i64.wrap (m : Int) = (m : Int) := wr (by omega) (by omega)
  have m0 : ¬ ((m : Int) < 0) := by omega
  have dm0 : decide ((m : Int) < 0) = false := df m0
  have hix : idxD (m + 1) (I m) = some m := idxD_nat .i64 (by omega)
  have hget : (ds ++ [D.agg [I 0, I 0, I 0, .snil]])[m]? = some (.agg [I 0, I 0, I 0, .snil]) := by rw [List.getElem?_append_right (by omega), hm, Nat.sub_self]; rfl
  have hset : ∀ y : D, (ds ++ [D.agg [I 0, I 0, I 0, .snil]]).set m y = ds ++ [y] := fun y => by rw [List.set_append_right _ _ (by omega), hm, Nat.sub_self]; rfl
  have ap1 : ∀ h : List Ob, apK 24 3 h .snil [] [.agg [I 16, I n, I 0]] = some (.own 3 h.length 0 0 1, h ++ [⟨0, 3, [.agg [I 16, I n, I 0]], 0⟩]) := fun h => by
    rw [apK_ok (by simp)]; rfl
  have lip : ∀ k, ip < H.length + k := fun k => by omega
  rw [body_eq Try.func44 rfl rfl]
  refine ⟨H.length + 3, (H ++ ([⟨0, 1, [I n, I 0, I 0], 0⟩, ⟨0, 3, [.agg [I 16, I n, I 0]], 0⟩, ⟨0, 4, [.agg [I 0, I 0, I 0, .own 3 (H.length + 3) 0 0 1]], 0⟩, ⟨0, 3, [.agg [I 16, I n, I 0]], 0⟩] : List Ob)).set ip ⟨v, 4, ds ++ [.agg [I 0, I 0, I 0, .own 3 (H.length + 3) 0 0 1]], 0⟩, ?_, ?_, ?_, by omega, fun i hi hne => ?_⟩
  · simp [argsσ, Vm.results, hsp, hbs, Wloop, hN, hF, hM, hFi, n0, d0, g0, wm, wm2, wm3, m0, dm0, hix, hget, hset, ap1, lip, eq_tf, hdw, logL, loud, isE, drawChk, -getElem?_pos]
  · rw [gs0 (by simp; omega)]
  · rw [List.getElem?_set_ne (by omega), hn]; simp
  · rw [List.getElem?_set_ne (by omega), get_lt hi]
theorem lay_func {H : List Ob} {ip v m j w c : Nat} {ds : List D} {x y z : Int} (h : H[ip]? = some ⟨v, 4, ds ++ [.agg [I x, I y, I z, .own 3 j w 0 (c + 1)]], 0⟩) (hm : ds.length = m) (hm2 : m < 10) :
    ∃ H', body Try.prog R 44 [.own 4 ip v 0 (m + 1), .str (bstr funcL)] H = some (.tup [.own 4 ip (v + 1) 0 (m + 1 + 1), .bool true], H') ∧ H'[ip]? = some ⟨v + 1, 4, ds ++ [.agg [I x, I y, I z, .own 3 j w 0 (c + 1)]] ++ [.agg [I 0, I 0, I 0, .snil]], 0⟩ ∧
      ∀ i, i < H.length → i ≠ ip → H'[i]? = H[i]? := by
  have l0 := hlt h
  have hsp := split_spec funcL 32 (by decide)
  rw [func_split] at hsp
  simp only [List.map, show ((32 : UInt8).toNat : Int) = 32 from rfl] at hsp
  have hN := num_zero
  have hH : fnc Try.prog cfg R 69 [.agg [I 0, I 0, I 0, .snil]] = some (.bool true) := by
    have := rhead_spec ⟨0, 0, 0, none⟩
    rw [show headOk ⟨0, 0, 0, none⟩ = true from by decide] at this
    exact this
  have hbs := fun dst ty pos af g st ps => op_bslice (P := Try.prog) (cfg := cfg) (run := R) dst ty pos af g st (z := 3) (n := 3) ps el51 sz3 ag3 ze3 rfl (by simp [fits_one ag3 sz3]) (by decide) (by decide)
  have hbp := fun dst ty pos af g st ps => op_bslice (P := Try.prog) (cfg := cfg) (run := R) dst ty pos af g st (z := 41) (n := 1) ps el23 sz41 ag41 ze41 rfl (by simp [fits_agg ag41 sz41]) (by decide) (by decide)
  have hd1 := dr44_12
  simp [opsAt, opsIn, Try.f44] at hd1
  have hdw := Wdraw hd1
  clear hd1
  have g0 : ∀ T : List Ob, (H ++ T)[ip]? = some ⟨v, 4, ds ++ [.agg [I x, I y, I z, .own 3 j w 0 (c + 1)]], 0⟩ := fun T => by rw [get_lt l0]; exact h
  have wm : IntKind.i64.wrap (((m + 1 : Nat) : Int) - 1) = (m : Int) := by rw [wr (by omega) (by omega)]; omega
  have wm3 : IntKind.i64.wrap (m : Int) = (m : Int) := wr (by omega) (by omega)
  have m0 : (0 : Int) ≤ m := by omega
  have dm0 : decide ((0 : Int) ≤ m) = true := dt m0
  have hix : idxD (m + 1) (I m) = some m := idxD_nat .i64 (by omega)
  have hget : (ds ++ [D.agg [I x, I y, I z, .own 3 j w 0 (c + 1)]])[m]? = some (.agg [I x, I y, I z, .own 3 j w 0 (c + 1)]) := by rw [List.getElem?_append_right (by omega), hm, Nat.sub_self]; rfl
  have c0 : ¬ ((c : Int) + 1 = 0) := by omega
  have dc0 : decide ((c : Int) + 1 = 0) = false := df c0
  have dc1 : decide (((c + 1 : Nat) : Int) = 0) = false := df (by omega)
  have m16 : ¬ ((m : Int) + 1 = 16) := by omega
  have dm16 : decide ((m : Int) + 1 = 16) = false := df m16
  have m16n : ¬ (m + 1 = 16) := by omega
  have m15n : ¬ (m = 15) := by omega
  obtain ⟨g, hg⟩ : ∃ g : D, g = .agg [I x, I y, I z, .own 3 j w 0 (c + 1)] := ⟨_, rfl⟩
  have els2 : ∀ T : List Ob, elsZ (H ++ T) 4 (.own 4 ip v 0 (m + 1)) = some (ds ++ [g]) := fun T => by
    rw [elsZ_own, elsOf_own, g0, Option.bind_some, if_pos ⟨rfl, rfl, by simp; omega⟩, List.drop_zero, List.take_of_length_le (by simp; omega), hg]
  have ap2 : ∀ T : List Ob, apK 48 4 (H ++ T) (.own 4 ip v 0 (m + 1)) (ds ++ [g]) [.agg [I 0, I 0, I 0, .snil]] = some (.own 4 ip (v + 1) 0 (m + 1 + 1), (H ++ T).set ip ⟨v + 1, 4, ds ++ [g] ++ [.agg [I 0, I 0, I 0, .snil]], 0⟩) := fun T => by
    rw [apK_ok (by simp; omega), apN_own' (by simp), g0]
    simp
  have eln : ∀ (T : List Ob) (k : Nat) (o : Ob), True := fun _ _ _ => trivial
  have els1 : ∀ o1 o2 : Ob, elsZ (H ++ [o1, o2, ⟨0, 4, [.agg [I 0, I 0, I 0, .snil]], 0⟩]) 4 (.own 4 (H.length + 2) 0 0 1) = some [.agg [I 0, I 0, I 0, .snil]] := fun o1 o2 => by simp [elsZ, elsOf]
  rw [body_eq Try.func44 rfl rfl]
  refine ⟨(H ++ ([⟨0, 1, [I 0, I 0, I 0], 0⟩, ⟨0, 4, [.agg [I 0, I 0, I 0, .snil]], 0⟩, ⟨0, 4, [.agg [I 0, I 0, I 0, .snil]], 0⟩] : List Ob)).set ip ⟨v + 1, 4, ds ++ [g] ++ [.agg [I 0, I 0, I 0, .snil]], 0⟩, ?_, ?_, fun i hi hne => ?_⟩
  · rw [← hg] at g0 hget
    have gc : g.cells = [I x, I y, I z, .own 3 j w 0 (c + 1)] := by rw [hg]; rfl
    simp [argsσ, Vm.results, hsp, hbs, hbp, Wloop, hN, hH, g0, wm, wm3, m0, dm0, hix, hget, gc, c0, dc0, dc1, m16, dm16, m16n, m15n, els1, els2, ap2, eq_ff, hdw, logL, loud, isE, drawChk, -getElem?_pos]
  · rw [gs0 (by simp; omega), hg]
  · rw [List.getElem?_set_ne (by omega), get_lt hi]
end Go.Proofs.YtlpadffinfijgaaW.Rg
