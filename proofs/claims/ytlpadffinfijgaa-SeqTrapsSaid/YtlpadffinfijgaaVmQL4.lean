/- SeqWraps: the program that is made. No conditions. -/
import Derived.Test.YtlpadffinfijgaaVmQL3
import Derived.Test.YtlpadffinfijgaaVmQW
set_option linter.unusedVariables false
set_option linter.unusedSimpArgs false
set_option maxRecDepth 10000
namespace Go.Proofs.YtlpadffinfijgaaW.Rg
open Go.Proofs.YtlpadffinfijgaaW.Vm Go.Proofs.YtlpadffinfijgaaW.Md
open Go Go.Proofs
theorem cl_instr : ∀ l : List Instr, cleans (l.map encInstr) = true
  | [] => rfl
  | x :: l => by simp [cl_instr l]
theorem cl_func : ∀ l : List Fu, cleans (l.map encFunc) = true
  | [] => rfl
  | x :: l => by simp [cl_func l]
/-- functions whose code is one's own -/
def FunOf (H : List Ob) (d : D) (x : Fu) : Prop := ∃ id ver m z code, d = .agg [I x.arity, I x.locals, I x.slots, .own 3 id ver 0 m] ∧ x.code = some code ∧ H[id]? = some ⟨ver, 3, code.map encInstr, z⟩ ∧ m = code.length
inductive FunsOf (H : List Ob) : List D → List Fu → Prop
  | nil : FunsOf H [] []
  | cons {d : D} {x : Fu} {ds : List D} {l : List Fu} (h : FunOf H d x) (r : FunsOf H ds l) : FunsOf H (d :: ds) (x :: l)
theorem FunOf.exp {H : List Ob} {d : D} {x : Fu} (h : FunOf H d x) : expG (expI 1 H) H d = some (encFunc x) := by
  obtain ⟨id, ver, m, z, code, rfl, hc, h1, rfl⟩ := h
  have hx : elsOf H (.own 3 id ver 0 code.length) = some (code.map encInstr) := by
    rw [elsOf_own, h1, Option.bind_some, if_pos ⟨rfl, rfl, by simp⟩, List.drop_zero, List.take_of_length_le (by simp)]
  have e : encFunc x = .agg [I x.arity, I x.locals, I x.slots, .sl 3 (code.map encInstr) false] := by
    show D.agg [_, _, _, encL 3 encInstr x.code] = _
    rw [hc]; rfl
  rw [e]
  simp [expG, expsG, hx, expI_clean (cl_instr code)]
theorem FunsOf.exp {H : List Ob} : ∀ {ds : List D} {l : List Fu}, FunsOf H ds l → expsG (expI 1 H) H ds = some (l.map encFunc)
  | _, _, .nil => by simp [expsG]
  | _, _, .cons h r => by simp [expsG, h.exp, r.exp]
theorem FunsOf.keep {H H' : List Ob} : ∀ {ds : List D} {l : List Fu}, FunsOf H ds l → (∀ (id : Nat) (o : Ob), H[id]? = some o → o.esz = 3 → H'[id]? = some o) → FunsOf H' ds l
  | _, _, .nil, _ => .nil
  | _, _, .cons ⟨id, ver, m, z, code, h1, h2, h3, h4⟩ r, hk => .cons ⟨id, ver, m, z, code, h1, h2, hk _ _ h3 rfl, h4⟩ (r.keep hk)
theorem FunsOf.snoc {H : List Ob} {d : D} {x : Fu} (h : FunOf H d x) : ∀ {ds : List D} {l : List Fu}, FunsOf H ds l → FunsOf H (ds ++ [d]) (l ++ [x])
  | _, _, .nil => .cons h .nil
  | _, _, .cons a r => .cons a (r.snoc h)
theorem exp_funs {H : List Ob} {i0 v0 z0 n : Nat} {d : D} {ds : List D} {l : List Fu} (h0 : H[i0]? = some ⟨v0, 4, d :: ds, z0⟩) (hn : n = (d :: ds).length) (h : FunsOf H (d :: ds) l) : exp1 H (.own 4 i0 v0 0 n) = some (encL 4 encFunc (some l)) := by
  subst hn
  have hcl : cleans (d :: ds) = false := by
    cases h with
    | cons h r => obtain ⟨id, ver, m, z, code, rfl, _⟩ := h; simp
  rw [exp_own, elsOf_own, h0, Option.bind_some, if_pos ⟨rfl, rfl, by simp⟩, List.drop_zero, List.take_of_length_le (by simp), Option.bind_some]
  unfold ownK expI
  rw [hcl]
  simp [h.exp, cl_func l]
  rfl
section
variable (p : Option (List Fu)) (a : Option (List Vl)) (s : Int)
def ldL (i : Nat) : List Instr := (List.range i).map (fun i : Nat => (⟨1, i, 0⟩ : Instr))
theorem ldL_len (i : Nat) : (ldL i).length = i := by simp [ldL]
theorem ldL_succ (i : Nat) : ldL i ++ [⟨1, i, 0⟩] = ldL (i + 1) := by simp [ldL, List.range_succ]
@[reducible] def oMn (n : Nat) (c : D) : Ob := ⟨0, 4, [.agg [I n, I n, I 1, c]], 0⟩
/-- while its loads are laid -/
def Ml (n i : Nat) (H : List Ob) : Prop := (i = 0 ∧ H = [oIn p a s, oMn n .snil]) ∨ (0 < i ∧ H = [oIn p a s, oMn n (.own 3 2 (i - 1) 0 i), ⟨i - 1, 3, (ldL i).map encInstr, 0⟩])
theorem wr_loads (n : Nat) (hn : n ≤ 8) {X : Type} (K : Ex × St → Option X) (Q : Option X → Prop) : ∀ (m i : Nat) (σ : Nat → D) (H : List Ob), i + m = n → Ml p a s n i H →
    σ 1 = .ptr 0 0 0 0 → σ 3 = I n → σ 4 = .ptr 1 0 0 0 → σ 5 = I i →
    (∀ σ' H', Ml p a s n n H' → σ' 1 = .ptr 0 0 0 0 → σ' 3 = I n → σ' 4 = .ptr 1 0 0 0 → Q (K (.exit 0, ⟨σ', H', 210⟩))) →
    Q ((W Try.prog cfgE (.loop (loopAt Try.f8 6)) ⟨σ, H, 210⟩).bind K) := by
  intro m
  induction m with
  | zero =>
    intro i σ H hi hM s1 s3 s4 s5 he
    have d1 : decide (i < n) = false := df (by omega)
    have d1' : ¬ (i < n) := by omega
    rw [Wloop]
    conv => arg 1; arg 1; arg 1; simp [loopAt, loopIn, headId, Try.f8, s3, s5, d1, d1', -getElem?_pos]
    have : i = n := by omega
    subst this
    exact he _ H hM (by simp [s1]) (by simp [s3]) (by simp [s4])
  | succ m ih =>
    intro i σ H hi hM s1 s3 s4 s5 he
    have d1 : decide (i < n) = true := dt (by omega)
    have d1' : i < n := by omega
    have hw : IntKind.i64.wrap ((i : Int) + 1) = ((i + 1 : Nat) : Int) := wr (by omega) (by omega)
    rcases hM with ⟨rfl, rfl⟩ | ⟨h0, rfl⟩
    · have ap1 : ∀ h : List Ob, apK 24 3 h .snil [] [.agg [I 1, I 0, I 0]] = some (.own 3 h.length 0 0 1, h ++ [⟨0, 3, [.agg [I 1, I 0, I 0]], 0⟩]) := fun h => by
        rw [apK_ok (by simp)]; rfl
      rw [Wloop]
      conv => arg 1; arg 1; arg 1; simp [loopAt, loopIn, headId, Try.f8, s3, s4, s5, d1, d1', ap1, -getElem?_pos]
      rw [Option.bind_some, loopK_normal]
      exact ih 1 _ _ (by omega) (.inr ⟨by decide, rfl⟩) (by simp [s1]) (by simp [s3]) (by simp [s4]) (by simp; rfl) he
    · have el1 : ∀ o1 o2 : Ob, elsZ [o1, o2, ⟨i - 1, 3, (ldL i).map encInstr, 0⟩] 3 (.own 3 2 (i - 1) 0 i) = some ((ldL i).map encInstr) := fun o1 o2 => by
        have : i = ((ldL i).map encInstr).length := by simp [ldL_len]
        simp [elsZ, elsOf_own, -List.map_take, ldL_len]
        exact List.take_of_length_le (by simp [ldL_len])
      have ap1 : ∀ o1 o2 : Ob, apK 24 3 [o1, o2, ⟨i - 1, 3, (ldL i).map encInstr, 0⟩] (.own 3 2 (i - 1) 0 i) ((ldL i).map encInstr) [.agg [I 1, I i, I 0]] = some (.own 3 2 (i - 1 + 1) 0 (i + 1), [o1, o2, ⟨i - 1 + 1, 3, (ldL i ++ [(⟨1, i, 0⟩ : Instr)]).map encInstr, 0⟩]) := fun o1 o2 => by
        rw [apK_ok (by simp only [List.length_cons, List.length_nil, List.length_map, ldL_len]; omega), apN_own' (by simp)]; simp
      rw [Wloop]
      conv => arg 1; arg 1; arg 1; simp [loopAt, loopIn, headId, Try.f8, s3, s4, s5, d1, d1', el1, ap1, hw, -getElem?_pos, -List.map_append]
      rw [Option.bind_some, loopK_normal]
      exact ih (i + 1) _ _ (by omega) (.inr ⟨by omega, by rw [show i - 1 + 1 = i + 1 - 1 by omega, ldL_succ]⟩) (by simp [s1]) (by simp [s3]) (by simp [s4]) (by simp) he
end
/-- one function's spawns, moved on -/
theorem wr_in (g : Fu) (hg : ∀ x ∈ g.c, -1000 ≤ x.a ∧ x.a ≤ 1000) (hgl : g.c.length ≤ 200) (ai : Nat) {X : Type} (K : Ex × St → Option X) (Q : Option X → Prop) : ∀ (rest : List Instr) (k : Nat) (σ : Nat → D) (H : List Ob), g.c.drop k = rest →
    H[ai]? = some ⟨0, 4, [.agg [I g.arity, I g.locals, I g.slots, .own 3 (ai + 1) 0 0 g.c.length]], 0⟩ → H[ai + 1]? = some ⟨0, 3, ((g.c.take k).map (shI 1) ++ rest).map encInstr, 0⟩ → σ 8 = .ptr ai 0 0 0 → σ 9 = I k →
    (∀ σ', (∀ t, t ≤ 7 → σ' t = σ t) → σ' 8 = .ptr ai 0 0 0 → Q (K (.exit 4, ⟨σ', H.set (ai + 1) ⟨0, 3, (g.c.map (shI 1)).map encInstr, 0⟩, 210⟩))) →
    Q ((W Try.prog cfgE (.loop (loopAt Try.f8 17)) ⟨σ, H, 210⟩).bind K) := by
  intro rest
  have hdr := drE dr8_20
  simp [opsAt, opsIn, Try.f8] at hdr
  have hdw := Wdraw hdr
  clear hdr
  induction rest with
  | nil =>
    intro k σ H hd hA hB s8 s9 he
    have hi : ¬ (k < g.c.length) := by have := congrArg List.length hd; simp at this; omega
    have d1 : decide (k < g.c.length) = false := df hi
    rw [Wloop]
    conv => arg 1; arg 1; arg 1; simp [loopAt, loopIn, headId, Try.f8, s8, s9, hA, d1, hi, -getElem?_pos]
    have e : H.set (ai + 1) ⟨0, 3, (g.c.map (shI 1)).map encInstr, 0⟩ = H := by
      rw [List.take_of_length_le (by omega), List.append_nil] at hB
      obtain ⟨hl2, he2⟩ := List.getElem?_eq_some_iff.1 hB
      rw [← he2]
      exact List.set_getElem_self hl2
    rw [← e]
    exact he _ (fun t ht => by simp only [upd]; repeat rw [if_neg (by omega)]) (by simp [s8])
  | cons y rest ih =>
    intro k σ H hd hA hB s8 s9 he
    obtain ⟨hg1, hd1, hi⟩ := drop_get hd
    have d1 : decide (k < g.c.length) = true := dt hi
    have hx : idxD g.c.length (I k) = some k := idxD_nat .i64 hi
    have hw : IntKind.i64.wrap ((k : Int) + 1) = ((k + 1 : Nat) : Int) := wr (by omega) (by omega)
    have hy := hg y (List.mem_of_getElem? hg1)
    have hw2 : IntKind.i64.wrap (y.a + 1) = y.a + 1 := wr (by omega) (by omega)
    have hlen : ((g.c.take k).map (shI 1)).length = k := by rw [List.length_map, List.length_take]; omega
    have hget : (((g.c.take k).map (shI 1) ++ y :: rest).map encInstr)[k]? = some (encInstr y) := by
      rw [List.getElem?_map, List.getElem?_append_right (by omega), hlen, Nat.sub_self]; rfl
    have hset : ∀ z : Instr, (((g.c.take k).map (shI 1) ++ y :: rest).map encInstr).set k (encInstr z) = ((g.c.take k).map (shI 1) ++ z :: rest).map encInstr := fun z => by
      rw [← List.map_set, List.set_append_right _ _ (by omega), hlen, Nat.sub_self]; rfl
    have htk : (g.c.take (k + 1)).map (shI 1) ++ rest = (g.c.take k).map (shI 1) ++ shI 1 y :: rest := by
      rw [List.take_add_one, hg1]; simp
    have hBl := hlt hB
    have hne : ai ≠ ai + 1 := by omega
    obtain ⟨L, hL⟩ : ∃ L, L = ((g.c.take k).map (shI 1) ++ y :: rest).map encInstr := ⟨_, rfl⟩
    rw [← hL] at hB hget hset
    cases c1 : decide (y.op = 13)
    · have hsh : shI 1 y = y := shI_a _ _ (of_decide_eq_false c1)
      rw [Wloop]
      conv => arg 1; arg 1; arg 1; simp [loopAt, loopIn, headId, Try.f8, s8, s9, hA, hB, hget, d1, hi, hx, hw, c1, -getElem?_pos, -List.map_append]
      rw [Option.bind_some, loopK_normal]
      refine ih (k + 1) _ H hd1 hA (by rw [htk, hsh, hB, hL]) (by simp [s8]) (by simp) (fun σ' h8 h9 => he σ' (fun t ht => ?_) h9)
      rw [h8 t ht]
      simp only [upd]
      repeat rw [if_neg (by omega)]
    · have hsh : shI 1 y = ⟨13, y.a + 1, y.b⟩ := by unfold shI; rw [if_pos (of_decide_eq_true c1), of_decide_eq_true c1]
      have hs2 := hset ⟨13, y.a + 1, y.b⟩
      have hkl : k < L.length := by rw [hL]; simp; omega
      rw [Wloop]
      conv => arg 1; arg 1; arg 1; simp [loopAt, loopIn, headId, Try.f8, s8, s9, hA, hB, hget, d1, hi, hx, hw, hw2, c1, hdw, logL, loud, isE, drawChk, hs2, hBl, hkl, -getElem?_pos, -List.map_append, -List.map_take]
      rw [Option.bind_some, loopK_normal]
      refine ih (k + 1) _ _ hd1 (by rw [List.getElem?_set_ne (by omega)]; exact hA) (by rw [gs0 hBl, htk, hsh]) (by simp [s8]) (by simp) (fun σ' h8 h9 => ?_)
      rw [List.set_set]
      exact he σ' (fun t ht => by rw [h8 t ht]; simp only [upd]; repeat rw [if_neg (by omega)]) h9
end Go.Proofs.YtlpadffinfijgaaW.Rg
