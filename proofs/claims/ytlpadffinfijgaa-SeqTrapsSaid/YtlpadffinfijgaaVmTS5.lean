/- Tasks that trap: the text and its program. No conditions. -/
import Derived.Test.YtlpadffinfijgaaVmTS4
import Derived.Test.YtlpadffinfijgaaVmQW
set_option linter.unusedVariables false
set_option linter.unusedSimpArgs false
set_option maxRecDepth 100000
namespace Go.Proofs.YtlpadffinfijgaaW.Rg
open Go.Proofs.YtlpadffinfijgaaW.Vm Go.Proofs.YtlpadffinfijgaaW.Md
open Go Go.Proofs
def hdT : List (List UInt8) := [[102, 117, 110, 99, 32, 48, 32, 48, 32, 50], [115, 112, 97, 119, 110, 32, 50, 32, 49], [115, 112, 97, 119, 110, 32, 49, 32, 48]]
/-- how it ends -/
def endT (h : Nat) : List (List UInt8) := if h = 0 then [[106, 111, 105, 110, 32, 49], [114, 101, 116]] else if h = 1 then [[112, 117, 115, 104, 32, 49, 32, 48], [114, 101, 116]] else if h = 2 then [[116, 114, 97, 112, 32, 57, 57]] else [[106, 111, 105, 110, 32, 48], [114, 101, 116]]
def preT (h : Nat) : List (List UInt8) := hdT ++ endT h ++ [funcL]
def endC (h : Nat) : List Instr := if h = 0 then [⟨14, 1, 0⟩, ⟨15, 0, 0⟩] else if h = 1 then [⟨0, 1, 0⟩, ⟨15, 0, 0⟩] else if h = 2 then [⟨16, 99, 0⟩] else [⟨14, 0, 0⟩, ⟨15, 0, 0⟩]
def codeT (h : Nat) : List Instr := [⟨13, 2, 1⟩, ⟨13, 1, 0⟩] ++ endC h
def mainT (h : Nat) : Fu := ⟨0, 0, 2, some (codeT h)⟩
def trapF1 (a : Nat) : Fu := ⟨0, 0, 0, some [⟨16, a, 0⟩]⟩
def progT (h a b : Nat) : List Fu := [mainT h, trapF1 a, trapF1 b]
/-- lines, one behind the other -/
def joinT : List (List UInt8) → List UInt8
  | [] => []
  | x :: l => x ++ [10] ++ joinT l
def allT (h a b : Nat) : List (List UInt8) := preT h ++ [trapL a, funcL, trapL b]
theorem splitL_app (c : UInt8) (l2 : List UInt8) : ∀ (l1 cur : List UInt8), splitL c (l1 ++ [c] ++ l2) cur = splitL c l1 cur ++ splitL c l2 []
  | [], cur => by
    show splitL c (c :: l2) cur = [cur] ++ splitL c l2 []
    rw [splitL, if_pos rfl]; rfl
  | x :: l1, cur => by
    show splitL c (x :: (l1 ++ [c] ++ l2)) cur = splitL c (x :: l1) cur ++ splitL c l2 []
    rw [splitL, splitL]
    split
    · rw [splitL_app c l2 l1 []]; rfl
    · exact splitL_app c l2 l1 _
theorem split_join : ∀ l : List (List UInt8), (∀ x ∈ l, splitL 10 x [] = [x]) → splitL 10 (joinT l) [] = l ++ [[]]
  | [], _ => rfl
  | x :: l, h => by
    show splitL 10 (x ++ [10] ++ joinT l) [] = _
    rw [splitL_app, h x (by simp), split_join l fun y hy => h y (by simp [hy])]
    rfl
theorem trap_line : ∀ k : Fin 256, splitL 10 (trapL k.val) [] = [trapL k.val] := by decide +kernel
theorem pre_line : ∀ h : Fin 4, ((preT h.val).all fun x => splitL 10 x [] == [x]) = true := by decide +kernel
theorem all_line (h a b : Nat) (hh : h < 4) (ha : a < 256) (hb : b < 256) : ∀ x ∈ allT h a b, splitL 10 x [] = [x] := fun x hx => by
  rcases List.mem_append.1 hx with hx | hx
  · have := List.all_eq_true.1 (pre_line ⟨h, hh⟩) x hx
    simpa using this
  · have hx : x = trapL a ∨ x = funcL ∨ x = trapL b := by simpa using hx
    rcases hx with rfl | rfl | rfl
    · exact trap_line ⟨a, ha⟩
    · decide
    · exact trap_line ⟨b, hb⟩
noncomputable def preE (h : Nat) : List Ob := ((foldL 300 (preT h) (.sl 4 [] true) []).map (·.2)).getD []
theorem pre_k0 : foldL 300 (preT 0) (.sl 4 [] true) [] = some (.own 4 3 1 0 2, preE 0) := by kernel_rfl
theorem pre_k1 : foldL 300 (preT 1) (.sl 4 [] true) [] = some (.own 4 3 1 0 2, preE 1) := by kernel_rfl
theorem pre_k2 : foldL 300 (preT 2) (.sl 4 [] true) [] = some (.own 4 3 1 0 2, preE 2) := by kernel_rfl
theorem pre_k3 : foldL 300 (preT 3) (.sl 4 [] true) [] = some (.own 4 3 1 0 2, preE 3) := by kernel_rfl
theorem pre_a0 : (preE 0)[3]? = some ⟨1, 4, [.agg [I 0, I 0, I 2, .own 3 7 3 0 4], .agg [I 0, I 0, I 0, .snil]], 0⟩ := by kernel_rfl
theorem pre_a1 : (preE 1)[3]? = some ⟨1, 4, [.agg [I 0, I 0, I 2, .own 3 7 3 0 4], .agg [I 0, I 0, I 0, .snil]], 0⟩ := by kernel_rfl
theorem pre_a2 : (preE 2)[3]? = some ⟨1, 4, [.agg [I 0, I 0, I 2, .own 3 7 2 0 3], .agg [I 0, I 0, I 0, .snil]], 0⟩ := by kernel_rfl
theorem pre_a3 : (preE 3)[3]? = some ⟨1, 4, [.agg [I 0, I 0, I 2, .own 3 7 3 0 4], .agg [I 0, I 0, I 0, .snil]], 0⟩ := by kernel_rfl
theorem pre_b0 : (preE 0)[7]? = some ⟨3, 3, (codeT 0).map encInstr, 0⟩ := by kernel_rfl
theorem pre_b1 : (preE 1)[7]? = some ⟨3, 3, (codeT 1).map encInstr, 0⟩ := by kernel_rfl
theorem pre_b2 : (preE 2)[7]? = some ⟨2, 3, (codeT 2).map encInstr, 0⟩ := by kernel_rfl
theorem pre_b3 : (preE 3)[7]? = some ⟨3, 3, (codeT 3).map encInstr, 0⟩ := by kernel_rfl
/-- the first lines -/
theorem pre_lay {h : Nat} (hh : h < 4) : ∃ E w n, LayS (preT h) (.sl 4 [] true) [] (.own 4 3 1 0 2) E ∧ E[3]? = some ⟨1, 4, [.agg [I 0, I 0, I 2, .own 3 7 w 0 n], .agg [I 0, I 0, I 0, .snil]], 0⟩ ∧
    E[7]? = some ⟨w, 3, (codeT h).map encInstr, 0⟩ ∧ n = (codeT h).length := by
  have hc : h = 0 ∨ h = 1 ∨ h = 2 ∨ h = 3 := by omega
  rcases hc with rfl | rfl | rfl | rfl
  · exact ⟨_, 3, 4, LayS.of 300 pre_k0, pre_a0, pre_b0, rfl⟩
  · exact ⟨_, 3, 4, LayS.of 300 pre_k1, pre_a1, pre_b1, rfl⟩
  · exact ⟨_, 2, 3, LayS.of 300 pre_k2, pre_a2, pre_b2, rfl⟩
  · exact ⟨_, 3, 4, LayS.of 300 pre_k3, pre_a3, pre_b3, rfl⟩
/-- all lines -/
theorem all_lay {h a b : Nat} (hh : h < 4) (ha : 16 ≤ a ∧ a < 256) (hb : 16 ≤ b ∧ b < 256) : ∃ H2, LayS (allT h a b) (.sl 4 [] true) [] (.own 4 3 2 0 3) H2 ∧ exp1 H2 (.own 4 3 2 0 3) = some (encL 4 encFunc (some (progT h a b))) := by
  obtain ⟨E, w, n, hL, h3, h7, hn⟩ := pre_lay hh
  obtain ⟨ja, H1, e1, g1, j1, k1, s1⟩ := lay_trap (ds := [.agg [I 0, I 0, I 2, .own 3 7 w 0 n]]) h3 rfl (by simp) ha
  obtain ⟨H2, e2, g2, s2⟩ := lay_func (ds := [.agg [I 0, I 0, I 2, .own 3 7 w 0 n]]) (c := 0) g1 rfl (by simp)
  obtain ⟨jb, H3, e3, g3, j3, k3, s3⟩ := lay_trap (ds := [.agg [I 0, I 0, I 2, .own 3 7 w 0 n], .agg [I 0, I 0, I 0, .own 3 ja 0 0 1]]) g2 rfl (by simp) hb
  have l7 := hlt h7
  have lja := hlt j1
  have len1 : E.length ≤ H1.length := by
    have := hlt h3
    by_cases h : E.length ≤ H1.length
    · exact h
    · omega
  refine ⟨H3, hL.app (.cons e1 (.cons e2 (.cons e3 (.nil _ _)))), ?_⟩
  have l72 : 7 < H2.length := by
    have : H2[7]? = some ⟨w, 3, (codeT h).map encInstr, 0⟩ := by rw [s2 7 (by omega) (by decide), s1 7 l7 (by decide)]; exact h7
    exact hlt this
  have c7 : H3[7]? = some ⟨w, 3, (codeT h).map encInstr, 0⟩ := by rw [s3 7 l72 (by decide), s2 7 (by omega) (by decide), s1 7 l7 (by decide)]; exact h7
  have ja3 : ja ≠ 3 := by
    intro h; rw [h] at j1; rw [j1] at g1; cases g1
  have cja2 : H2[ja]? = some ⟨0, 3, [.agg [I 16, I a, I 0]], 0⟩ := by rw [s2 ja lja ja3]; exact j1
  have cja : H3[ja]? = some ⟨0, 3, [.agg [I 16, I a, I 0]], 0⟩ := by rw [s3 ja (hlt cja2) ja3]; exact cja2
  refine exp_funs (d := .agg [I 0, I 0, I 2, .own 3 7 w 0 n]) (ds := [.agg [I 0, I 0, I 0, .own 3 ja 0 0 1], .agg [I 0, I 0, I 0, .own 3 jb 0 0 1]]) g3 rfl ?_
  exact .cons ⟨7, w, n, 0, _, rfl, rfl, c7, hn⟩ (.cons ⟨ja, 0, 1, 0, [⟨16, a, 0⟩], rfl, rfl, cja, rfl⟩ (.cons ⟨jb, 0, 1, 0, [⟨16, b, 0⟩], rfl, rfl, j3, rfl⟩ .nil))
end Go.Proofs.YtlpadffinfijgaaW.Rg
