/- The document's reading of texts: lines, words. No conditions. -/
import Derived.Test.YtlpadffinfijgaaVmQL1
set_option linter.unusedVariables false
set_option linter.unusedSimpArgs false
set_option maxRecDepth 10000
namespace Go.Proofs.YtlpadffinfijgaaW.Rg
open Go.Proofs.YtlpadffinfijgaaW.Vm Go.Proofs.YtlpadffinfijgaaW.Md
open Go Go.Proofs
/-- a text of bytes -/
def bstr (l : List UInt8) : ByteArray := ⟨⟨l⟩⟩
theorem bstr_size (l : List UInt8) : (bstr l).size = l.length := rfl
theorem bstr_get (l : List UInt8) (i : Nat) : (bstr l)[i]? = l[i]? := by
  by_cases h : i < l.length
  · rw [List.getElem?_eq_getElem h]
    have : i < (bstr l).size := h
    rw [getElem?_pos (bstr l) i this]
    rfl
  · rw [List.getElem?_eq_none_iff.2 (by omega)]
    exact getElem?_neg (bstr l) i h
theorem bstr_ext (l : List UInt8) (a b : Nat) : (bstr l).extract a b = bstr ((l.drop a).take (b - a)) := by
  apply ByteArray.ext
  rw [ByteArray.data_extract]
  apply Array.ext'
  simp [bstr]
theorem bstr_app (l m : List UInt8) : bstr l ++ bstr m = bstr (l ++ m) := by
  apply ByteArray.ext
  rw [ByteArray.data_append]
  apply Array.ext'
  simp [bstr]
/-- the parts between the bytes of a kind -/
def splitL (c : UInt8) : List UInt8 → List UInt8 → List (List UInt8)
  | [], cur => [cur]
  | x :: l, cur => if x = c then cur :: splitL c l [] else splitL c l (cur ++ [x])
@[reducible] def encBs (x : List UInt8) : D := .str (bstr x)
/-- while parts are laid -/
def Ms (o : List (List UInt8)) (d : D) (H : List Ob) : Prop := (o = [] ∧ d = .sl 1 [] true ∧ H = []) ∨ (o ≠ [] ∧ d = .own 1 0 (o.length - 1) 0 o.length ∧ H = [⟨o.length - 1, 1, o.map encBs, 0⟩])
theorem bin_u8 (s t : Operand) (a b : Int) : binD Try.prog .eql 5 s t (.int .u8 a) (.int .u8 b) = some (.bool (decide (a = b))) := by
  simp [binD, scal]; rfl
theorem Ms.app {o : List (List UInt8)} {d : D} {H : List Ob} (h : Ms o d H) (x : List UInt8) (hl : o.length < 2 ^ 40) : ∃ d' H', Ms (o ++ [x]) d' H' ∧ elsZ H 1 d = some (o.map encBs) ∧ apK 16 1 H d (o.map encBs) [.str (bstr x)] = some (d', H') := by
  rcases h with ⟨rfl, rfl, rfl⟩ | ⟨h0, rfl, rfl⟩
  · refine ⟨.own 1 0 0 0 1, [⟨0, 1, [.str (bstr x)], 0⟩], .inr ⟨by simp, rfl, rfl⟩, by simp, ?_⟩
    rw [apK_ok (by simp)]; rfl
  · have hne : 0 < o.length := List.length_pos_iff.2 h0
    refine ⟨.own 1 0 o.length 0 (o.length + 1), [⟨o.length, 1, (o ++ [x]).map encBs, 0⟩], .inr ⟨by simp, by simp, by simp⟩, ?_, ?_⟩
    · simp [elsZ, elsOf_own, -List.map_take]
      exact List.take_of_length_le (by simp)
    · rw [apK_ok (by simp only [List.length_cons, List.length_nil, List.length_map]; omega), apN_own' (by simp)]
      simp [show o.length - 1 + 1 = o.length by omega]
theorem split_loop (l : List UInt8) (c : UInt8) (hl : l.length < 2 ^ 40) {X : Type} (K : Ex × St → Option X) (Q : Option X → Prop) : ∀ (rest cur pre : List UInt8) (o : List (List UInt8)) (d : D) (H : List Ob) (σ : Nat → D), l = pre ++ cur ++ rest → o.length ≤ pre.length → Ms o d H →
    σ 0 = .str (bstr l) → σ 1 = .int .u8 c.toNat → σ 5 = d → σ 6 = I pre.length → σ 7 = I (pre.length + cur.length : Nat) →
    (∀ σ' H' d', Ms (o ++ splitL c rest cur) d' H' → σ' 5 = d' → Q (K (.exit 0, ⟨σ', H', 36⟩))) →
    Q ((W Try.prog cfg (.loop (loopAt Try.f43 4)) ⟨σ, H, 36⟩).bind K) := by
  intro rest
  induction rest with
  | nil =>
    intro cur pre o d H σ hs ho hM s0 s1 s5 s6 s7 he
    have hlen : l.length = pre.length + cur.length := by rw [hs]; simp
    obtain ⟨d', H', hM', e1, e2⟩ := hM.app cur (by omega)
    have hsz : (bstr l).size = pre.length + cur.length := hlen
    have hx : (bstr l).extract pre.length (pre.length + cur.length) = bstr cur := by
      rw [bstr_ext, hs, List.append_nil, List.drop_left, List.take_of_length_le (by omega)]
    obtain ⟨i, hi⟩ : ∃ i, i = pre.length + cur.length := ⟨_, rfl⟩
    rw [← hi] at s7 hsz hx
    have hw : IntKind.i64.wrap ((i : Int) + 1) = ((i + 1 : Nat) : Int) := wr (by omega) (by omega)
    have sl : ∀ h : List Ob, sliceD Try.prog h 9 (.str (bstr l)) (some (I pre.length)) (some (I i)) none = some (.str (bstr cur), h) := fun h => by
      have : Try.prog.underlying 9 = some .string := un9
      have hle : (pre.length : Int) ≤ i := by omega
      simp only [sliceD, this, bndD, hsz]
      rw [if_pos ⟨by omega, by omega⟩]
      simp only [bndD]
      rw [if_pos ⟨by omega, by omega⟩]
      simp [hx]
    have n1 : ¬ (i + 1 ≤ i) := by omega
    have n2 : ¬ ((i : Int) + 1 ≤ (i : Int)) := by omega
    have n3 : decide ((i : Int) + 1 ≤ (i : Int)) = false := df n2
    have n4 : decide (i + 1 ≤ i) = false := df n1
    rw [Wloop]
    conv => arg 1; arg 1; arg 1; simp [loopAt, loopIn, headId, Try.f43, s0, s1, s5, s6, s7, hsz, hw, e1, e2, sl, -getElem?_pos]
    rw [Option.bind_some, loopK_normal, Wloop]
    conv => arg 1; arg 1; arg 1; simp [loopAt, loopIn, headId, Try.f43, s0, hsz, n1, n2, n3, n4, -getElem?_pos]
    refine he _ H' d' hM' ?_
    simp
  | cons y rest ih =>
    intro cur pre o d H σ hs ho hM s0 s1 s5 s6 s7 he
    have hlen : l.length = pre.length + cur.length + (rest.length + 1) := by rw [hs]; simp; omega
    have hsz : (bstr l).size = l.length := rfl
    have hget : l[pre.length + cur.length]? = some y := by
      rw [hs, List.getElem?_append_right (by simp)]
      simp
    obtain ⟨i, hi⟩ : ∃ i, i = pre.length + cur.length := ⟨_, rfl⟩
    have hx : (bstr l).extract pre.length (pre.length + cur.length) = bstr cur := by
      rw [bstr_ext, hs, List.append_assoc, List.drop_left]
      simp
    rw [← hi] at s7 hget hx
    have hw : IntKind.i64.wrap ((i : Int) + 1) = ((i + 1 : Nat) : Int) := wr (by omega) (by omega)
    have d1 : decide (i ≤ l.length) = true := dt (by omega)
    have d1' : i ≤ l.length := by omega
    have d2 : decide (i = l.length) = false := df (by omega)
    have d2' : ¬ (i = l.length) := by omega
    have d2i : decide ((i : Int) = (l.length : Int)) = false := df (by omega)
    have hix : idxD (bstr l).size (I i) = some i := idxD_nat .i64 (by rw [hsz]; omega)
    have hid : indexD Try.prog 9 (.str (bstr l)) (I i) = some (.int .u8 y.toNat) := by
      have : Try.prog.underlying 9 = some .string := un9
      simp only [indexD, this, hix]
      rw [bstr_get, hget]
    have sl : ∀ h : List Ob, sliceD Try.prog h 9 (.str (bstr l)) (some (I pre.length)) (some (I i)) none = some (.str (bstr cur), h) := fun h => by
      have : Try.prog.underlying 9 = some .string := un9
      have hle : (pre.length : Int) ≤ i := by omega
      simp only [sliceD, this, bndD, hsz]
      rw [if_pos ⟨by omega, by omega⟩]
      simp only [bndD]
      rw [if_pos ⟨by omega, by omega⟩]
      simp [hx]
    by_cases hc : y = c
    · subst hc
      obtain ⟨d', H', hM', e1, e2⟩ := hM.app cur (by omega)
      rw [Wloop]
      conv => arg 1; arg 1; arg 1; simp [loopAt, loopIn, headId, Try.f43, s0, s1, s5, s6, s7, hsz, hw, d1, d1', d2, d2', d2i, hid, bin_u8, e1, e2, sl, -getElem?_pos]
      rw [Option.bind_some, loopK_normal]
      refine ih [] (pre ++ cur ++ [y]) (o ++ [cur]) d' H' _ (by rw [hs]; simp) (by simp; omega) hM' (by simp [s0]) (by simp [s1]) (by simp) ?_ ?_ (fun σ' H2 d2 hM2 h5 => he σ' H2 d2 ?_ h5)
      · simp [hi]; omega
      · simp [hi]; omega
      · unfold splitL
        rw [if_pos rfl]
        simpa using hM2
    · have d3 : decide ((y.toNat : Int) = (c.toNat : Int)) = false := df (fun h => hc (UInt8.toNat_inj.1 (by omega)))
      have d3' : ¬ ((y.toNat : Int) = (c.toNat : Int)) := of_decide_eq_false d3
      have d3n : ¬ (y.toNat = c.toNat) := by omega
      rw [Wloop]
      conv => arg 1; arg 1; arg 1; simp [loopAt, loopIn, headId, Try.f43, s0, s1, s5, s6, s7, hsz, hw, d1, d1', d2, d2', d2i, hid, bin_u8, d3, d3', d3n, hc, -getElem?_pos]
      rw [Option.bind_some, loopK_normal]
      refine ih (cur ++ [y]) pre o d H _ (by rw [hs]; simp) ho hM (by simp [s0]) (by simp [s1]) (by simp [s5]) (by simp [s6]) ?_ (fun σ' H2 d2 hM2 h5 => he σ' H2 d2 ?_ h5)
      · simp [hi]; omega
      · unfold splitL
        rw [if_neg hc]
        exact hM2
theorem splitL_ne (c : UInt8) : ∀ (l cur : List UInt8), splitL c l cur ≠ []
  | [], cur => by simp [splitL]
  | x :: l, cur => by
    unfold splitL
    split
    · simp
    · exact splitL_ne c l _
theorem split_spec (l : List UInt8) (c : UInt8) (hl : l.length < 2 ^ 40) : fnc Try.prog cfg R 43 [.str (bstr l), .int .u8 c.toNat] = some (.sl 1 ((splitL c l []).map encBs) false) := by
  rw [fnc_at rfl, body_eq Try.func43 rfl rfl]
  simp [argsσ, Option.bind_assoc, -getElem?_pos]
  refine split_loop l c hl _ (fun o => o = some _) l [] [] [] (.sl 1 [] true) [] _ rfl (by simp) (.inl ⟨rfl, rfl, rfl⟩) ?_ ?_ ?_ ?_ ?_ ?_
  · simp [argsσ]
  · simp [argsσ]
  · simp
  · simp
  · simp
  · intro σ' H' d' hM h5
    rw [List.nil_append] at hM
    rcases hM with ⟨h, _⟩ | ⟨_, rfl, rfl⟩
    · exact absurd h (splitL_ne c l [])
    · have cl : ∀ m : List (List UInt8), cleans (m.map encBs) = true := fun m => by
        induction m with
        | nil => rfl
        | cons x m ih => simp [ih]
      simp [h5, Vm.results, exp_own, elsOf_own, ownK_clean _ _ _ (cl _), -List.map_take, -getElem?_pos]
      rw [List.take_of_length_le (by simp), ownK_clean _ _ _ (cl _)]
      simp
end Go.Proofs.YtlpadffinfijgaaW.Rg
