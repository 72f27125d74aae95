/- A region whose order is open: whatever order is drawn, the end is that of the text's order. No conditions. -/
import Derived.Test.YtlpadffinfijgaaVmDraw
set_option linter.unusedVariables false
set_option linter.unusedSimpArgs false
namespace Go.Proofs.YtlpadffinfijgaaW.Vm
open Go Go.RowKit

abbrev Cfg.nm (cfg : Cfg) : Cfg := { cfg with nomark := true }

section
variable {P : Program} {cfg : Cfg} {run : Run} {ops : Array Oper}

theorem logL_mem {o : Oper} {i : Nat} {st : St} {ls : List LdR} {x : LdR} (h : x ∈ logL o i st [] ∨ x ∈ ls) : x ∈ logL o i st ls := by
  unfold logL at *
  split at h
  · split at h
    · simp at h ⊢; exact h
    · simpa using h
  · simpa using h

theorem drawOps_tr : ∀ (l : List Oper) (k : Nat) {st st' : St} {ls ls' : List LdR} {es es' : List EfR}, drawOps P cfg run ops (l.zipIdx k) st ls es = some (st', ls', es') →
    ∃ tr : Nat → St, tr k = st ∧ tr (k + l.length) = st' ∧ (∀ x ∈ ls, x ∈ ls') ∧ (∀ x ∈ es, x ∈ es') ∧ ∀ (i : Nat) o, l[i]? = some o → stepD P cfg run ops o (tr (k + i)) = some (tr (k + i + 1)) ∧
      ∃ b, wantD ops o (tr (k + i)).σ = some b ∧ (b = true → (∀ x ∈ logL o (k + i) (tr (k + i)) [], x ∈ ls') ∧ (loud P cfg o = true → EfR.mk (k + i) (tr (k + i)).h (tr (k + i + 1)).h ∈ es'))
  | [], k, st, st', ls, ls', es, es', h => by
    simp only [List.zipIdx_nil, drawOps, Option.some.injEq, Prod.mk.injEq] at h
    obtain ⟨rfl, rfl, rfl⟩ := h
    exact ⟨fun _ => st, rfl, rfl, fun _ h => h, fun _ h => h, fun i o h => by simp at h⟩
  | o :: l, k, st, st', ls, ls', es, es', h => by
    simp only [List.zipIdx_cons, drawOps] at h
    split at h
    · rename_i b s1 hw hs
      obtain ⟨tr, h1, h2, h3, h4, h5⟩ := drawOps_tr l (k + 1) h
      refine ⟨fun n => if n = k then st else tr n, by simp, ?_, fun x hx => ?_, fun x hx => ?_, fun i q hq => ?_⟩
      · simp only [List.length_cons]
        rw [if_neg (by omega), ← h2]; congr 1; omega
      · refine h3 x ?_
        split
        · exact logL_mem (.inr hx)
        · exact hx
      · refine h4 x ?_
        split
        · exact List.mem_cons_of_mem _ hx
        · exact hx
      · cases i with
        | zero =>
          simp only [List.getElem?_cons_zero, Option.some.injEq] at hq; subst hq
          simp only [Nat.add_zero, if_true]
          rw [if_neg (by omega), h1]
          refine ⟨hs, b, hw, fun hb => ⟨fun x hx => h3 x ?_, fun hl => h4 _ ?_⟩⟩
          · rw [if_pos hb]; exact logL_mem (.inl hx)
          · rw [if_pos (by simp [hb, hl])]; exact List.mem_cons_self
        | succ i =>
          simp only [List.getElem?_cons_succ] at hq
          have := h5 i q hq
          simp only
          rw [if_neg (by omega), if_neg (by omega), show k + (i + 1) = k + 1 + i by omega, show k + 1 + i + 1 = k + 1 + i + 1 from rfl]
          exact this
    · cases h

structure Trace (P : Program) (cfg : Cfg) (run : Run) (ops : Array Oper) (un : List (Nat × Nat)) (st st' : St) (tr : Nat → St) : Prop where
  t0 : tr 0 = st
  tn : tr ops.size = st'
  step : ∀ (i : Nat) o, ops[i]? = some o → stepD P cfg.nm run ops o (tr i) = some (tr (i + 1))
  want : ∀ (i : Nat) o, ops[i]? = some o → ∃ b, wantD ops o (tr i).σ = some b
  chk : ∀ (i j : Nat) x y t xo id ver k l, ops[i]? = some x → ops[j]? = some y → x.op = .load t xo → wantD ops x (tr i).σ = some true → ev (tr i).σ xo = some (.ptr id ver k l) → loud P cfg y = true →
    wantD ops y (tr j).σ = some true → (i, j) ∈ un → ldD P (tr j).h t (.ptr id ver k l) = ldD P (tr (j + 1)).h t (.ptr id ver k l)
theorem trace_of {st st' : St} (h : regionD P cfg run ops true st = some st') : ∃ un, Info P cfg ops un ∧ ∃ tr, Trace P cfg run ops un st st' tr := by
  simp only [regionD, if_true] at h
  split at h
  · rename_i un hu
    refine ⟨un, info_of hu, ?_⟩
    split at h
    · rename_i s ls es he
      split at h
      · rename_i hc
        simp only [Option.some.injEq] at h; subst h
        obtain ⟨tr, h1, h2, _, _, h5⟩ := drawOps_tr ops.toList 0 he
        simp only [Nat.zero_add, Array.length_toList] at h2 h5
        have h5' : ∀ (i : Nat) o, ops[i]? = some o → _ := fun i o ho => h5 i o (by simpa using ho)
        refine ⟨tr, h1, h2, fun i o ho => (h5' i o ho).1, fun i o ho => ?_, ?_⟩
        · obtain ⟨b, hb, _⟩ := (h5' i o ho).2
          exact ⟨b, hb⟩
        · intro i j x y t xo id ver k l hx hy hop hwx hev hl hwy hm
          obtain ⟨b, hb, hb2⟩ := (h5' i x hx).2
          rw [hwx] at hb; cases hb
          obtain ⟨b, hb, hb3⟩ := (h5' j y hy).2
          rw [hwy] at hb; cases hb
          have m1 := (hb2 rfl).1 ⟨i, t, .ptr id ver k l⟩ (by unfold logL; rw [hop]; simp [hev])
          have m2 := (hb3 rfl).2 hl
          unfold drawChk at hc
          simp only [List.all_eq_true] at hc
          have := hc _ m1 _ m2
          simp only [Bool.or_eq_true, Bool.not_eq_true', List.contains_eq_mem, decide_eq_false_iff_not] at this
          exact beqo_eq (this.resolve_left fun h => h hm)
      · cases h
    · cases h
  · cases h

/-- the temporaries, when the operations of S have run -/
def tvN (ops : Array Oper) (tr : Nat → St) (st : St) (S : Nat → Bool) : Nat → Nat → D
  | 0, t => st.σ t
  | i + 1, t => if S i = true ∧ (ops[i]?).bind (·.dst) = some t then (tr (i + 1)).σ t else tvN ops tr st S i t

section
variable {un : List (Nat × Nat)} {st st' : St} {tr : Nat → St} (T : Trace P cfg run ops un st st' tr)
theorem step_parts {i : Nat} {o : Oper} (hs : stepD P cfg.nm run ops o (tr i) = some (tr (i + 1))) :
    (tr (i + 1)).n = (tr i).n ∧ (∀ t, o.dst ≠ some t → (tr (i + 1)).σ t = (tr i).σ t) ∧ (∀ t, o.dst = some t → t < (tr i).n) ∧
    ((wantD ops o (tr i).σ = some true ∧ ∃ d h', opD P cfg.nm run o (tr i) = some (d, h') ∧ (tr (i + 1)).h = h' ∧ ∀ t, o.dst = some t → (tr (i + 1)).σ t = d) ∨
     (wantD ops o (tr i).σ = some false ∧ (tr (i + 1)).h = (tr i).h ∧ ∀ t, o.dst = some t → (tr (i + 1)).σ t = .tup [])) := by
  have put_parts : ∀ {s s' : St} {d : D}, put s o.dst d = some s' → s'.n = s.n ∧ s'.h = s.h ∧ (∀ t, o.dst ≠ some t → s'.σ t = s.σ t) ∧ (∀ t, o.dst = some t → t < s.n ∧ s'.σ t = d) := by
    intro s s' d h
    cases hd : o.dst with
    | none => rw [hd] at h; simp only [put, Option.some.injEq] at h; subst h; exact ⟨rfl, rfl, fun _ _ => rfl, fun _ h => by cases h⟩
    | some u =>
      rw [hd] at h
      simp only [put] at h
      split at h
      · rename_i hlt
        simp only [Option.some.injEq] at h; subst h
        refine ⟨rfl, rfl, fun t ht => ?_, fun t ht => ?_⟩
        · simp only [upd]; rw [if_neg (fun e => ht (by rw [e]))]
        · cases ht; exact ⟨hlt, by simp [upd]⟩
      · cases h
  unfold stepD at hs
  split at hs
  · rename_i hw
    split at hs
    · rename_i d h' hop
      obtain ⟨p1, p2, p3, p4⟩ := put_parts hs
      exact ⟨p1, p3, fun t ht => (p4 t ht).1, .inl ⟨hw, d, h', hop, p2, fun t ht => (p4 t ht).2⟩⟩
    · cases hs
  · rename_i hw
    obtain ⟨p1, p2, p3, p4⟩ := put_parts hs
    exact ⟨p1, p3, fun t ht => (p4 t ht).1, .inr ⟨hw, p2, fun t ht => (p4 t ht).2⟩⟩
  · cases hs

theorem Trace.n_eq (T : Trace P cfg run ops un st st' tr) : ∀ i, i ≤ ops.size → (tr i).n = st.n
  | 0, _ => by rw [T.t0]
  | i + 1, h => by
    have hi : ops[i]? = some ops[i] := Array.getElem?_eq_getElem (by omega)
    rw [(step_parts (T.step i _ hi)).1, Trace.n_eq T i (by omega)]
theorem Trace.tv_all (T : Trace P cfg run ops un st st' tr) {S : Nat → Bool} {t : Nat} : ∀ m, m ≤ ops.size → (∀ j, j < m → (ops[j]?).bind (·.dst) = some t → S j = true) → tvN ops tr st S m t = (tr m).σ t
  | 0, _, _ => by rw [tvN, T.t0]
  | m + 1, hm, h => by
    have hi : ops[m]? = some ops[m] := Array.getElem?_eq_getElem (by omega)
    rw [tvN]
    by_cases hd : (ops[m]?).bind (·.dst) = some t
    · rw [if_pos ⟨h m (by omega) hd, hd⟩]
    · rw [if_neg (fun e => hd e.2), Trace.tv_all T m (by omega) fun j hj => h j (by omega)]
      refine ((step_parts (T.step m _ hi)).2.1 t fun e => hd ?_).symm
      rw [hi, Option.bind_some, e]
theorem tv_stay {S : Nat → Bool} {t m : Nat} : ∀ n, m ≤ n → (∀ j, m ≤ j → j < n → (ops[j]?).bind (·.dst) = some t → S j = false) → tvN ops tr st S n t = tvN ops tr st S m t
  | 0, hm, _ => by rw [Nat.le_zero.1 hm]
  | n + 1, hm, h => by
    by_cases he : m = n + 1
    · rw [he]
    · rw [tvN, if_neg, tv_stay n (by omega) fun j h1 h2 => h j h1 (by omega)]
      rintro ⟨h1, h2⟩
      rw [h n (by omega) (by omega) h2] at h1; cases h1
theorem tv_set {S : Nat → Bool} {i t : Nat} (hS : S i = false) (hd : (ops[i]?).bind (·.dst) ≠ some t) : ∀ n, tvN ops tr st (fun j => if j = i then true else S j) n t = tvN ops tr st S n t
  | 0 => rfl
  | n + 1 => by
    rw [tvN, tvN, tv_set hS hd n]
    by_cases hn : n = i
    · subst hn
      rw [if_neg (fun e => hd e.2), if_neg (fun e => hd e.2)]
    · simp only [if_neg hn]
theorem tv_new {S : Nat → Bool} {i t n : Nat} (hi : i < n) (hd : (ops[i]?).bind (·.dst) = some t) (hno : ∀ j, i < j → (ops[j]?).bind (·.dst) = some t → S j = false) :
    tvN ops tr st (fun j => if j = i then true else S j) n t = (tr (i + 1)).σ t := by
  rw [tv_stay (m := i + 1) n (by omega) fun j h1 h2 h3 => by show (if j = i then true else S j) = false; rw [if_neg (by omega)]; exact hno j (by omega) h3]
  rw [tvN, if_pos ⟨by simp, hd⟩]

theorem Trace.h_le (T : Trace P cfg run ops un st st' tr) (hl : RunLen run) {i : Nat} (hi : i < ops.size) : (tr i).h.length ≤ (tr (i + 1)).h.length := stepD_len hl (T.step i _ (Array.getElem?_eq_getElem hi))
theorem Trace.h_mono (T : Trace P cfg run ops un st st' tr) (hl : RunLen run) {i : Nat} : ∀ j, i ≤ j → j ≤ ops.size → (tr i).h.length ≤ (tr j).h.length
  | 0, h, _ => by rw [Nat.le_zero.1 h]; exact Nat.le_refl _
  | j + 1, h, hj => by
    by_cases he : i = j + 1
    · rw [he]; exact Nat.le_refl _
    · exact Nat.le_trans (Trace.h_mono T hl j (by omega) (by omega)) (T.h_le hl (by omega))
/-- an operation that is not loud leaves the objects, or lays one more -/
theorem calm {i : Nat} {o : Oper} (hs : stepD P cfg.nm run ops o (tr i) = some (tr (i + 1))) (hl : loud P cfg o = false) :
    (tr (i + 1)).h = (tr i).h ∧ ¬ (isA cfg o = true ∧ wantD ops o (tr i).σ = some true) ∨ (isA cfg o = true ∧ wantD ops o (tr i).σ = some true ∧ ∃ z els, (tr (i + 1)).h = newOb (tr i).h z els) := by
  rcases (step_parts hs).2.2.2 with ⟨hw, d, h', hop, e1, _⟩ | ⟨hw, e1, _⟩
  · by_cases hA : isA cfg o = true
    · obtain ⟨z, els, mk, e2, _⟩ := A_ok (cfg := cfg.nm) hA hop
      exact .inr ⟨hA, hw, z, els, by rw [e1]; exact e2⟩
    · exact .inl ⟨by rw [e1]; exact quiet_h (cfg := cfg.nm) rfl (show isA cfg o = false by simpa using hA) hl hop, fun h => hA h.1⟩
  · exact .inl ⟨e1, fun h => by rw [hw] at h; simp at h⟩

theorem ldD_app {h : List Ob} {z : Nat} {els : List D} {t id ver k l : Nat} (hid : id < h.length) : ldD P (newOb h z els) t (.ptr id ver k l) = ldD P h t (.ptr id ver k l) := by
  unfold ldD newOb
  cases aggT P t <;> cases szT P t <;> first | rfl | (simp only [List.getElem?_append_left hid])

structure Inv (ds : List Deferred) (P : Program) (cfg : Cfg) (ops : Array Oper) (st st' : St) (tr : Nat → St) (c0 : Cx) (S : Nat → Bool) (q : Nat) (c : Cx) (a : Act) : Prop where
  hr : HR c
  ext : Ext c0 c
  bel : Below c0.N0 c0.w c.w
  df : a.defers = ds
  sz : a.tmps.size = st.n
  tmp : ∀ t, RV c (tvN ops tr st S ops.size t) (a.tmps.getD t undef)
  down : ∀ j, S j = true → ∀ k, ((Region.before ops).getD j 0).testBit k = true → S k = true
  lim : ∀ j, S j = true → j < ops.size
  q1 : ∀ (j : Nat) y, ops[j]? = some y → loud P cfg y = true → (S j = true ↔ j < q)
  q2 : q ≤ ops.size
  q3 : q = 0 ∨ ∃ y, ops[q - 1]? = some y ∧ loud P cfg y = true ∧ S (q - 1) = true
  ha : ∀ id, id < (tr q).h.length → c.hs id = (tr q).h[id]?
  hb : ∀ (i : Nat) x, ops[i]? = some x → isA cfg x = true → wantD ops x (tr i).σ = some true → q ≤ i → c.hs (tr i).h.length = (tr (i + 1)).h[(tr i).h.length]? ∧ (S i = false → c.μ (tr i).h.length = none)
  hc : ∀ (j : Nat) y, ops[j]? = some y → loud P cfg y = true → q ≤ j → ∀ id, (tr j).h.length ≤ id → id < (tr (j + 1)).h.length → c.hs id = none ∧ c.μ id = none
  hd : ∀ id, st'.h.length ≤ id → c.hs id = c0.hs id ∧ c.μ id = c0.μ id
  he : ∀ id, id < st.h.length → c0.μ id = none → c.μ id = none

variable {ds : List Deferred} {c0 c : Cx} {S : Nat → Bool} {q : Nat} {a : Act}

/-- where nothing loud stands between, the objects are those of the text's order -/
theorem Inv.agree (T : Trace P cfg run ops un st st' tr) (hlen : RunLen run) (I : Inv ds P cfg ops st st' tr c0 S q c a) {i : Nat} (hi : i ≤ ops.size) (hq : q ≤ i) (hno : ∀ (x : Nat) y, q ≤ x → x < i → ops[x]? = some y → loud P cfg y = false) : Ag c (tr i).h := by
  have : ∀ n, q + n ≤ i → Ag c (tr (q + n)).h := by
    intro n
    induction n with
    | zero => intro _; exact I.ha
    | succ n ih =>
      intro hn
      have hx : ops[q + n]? = some ops[q + n] := Array.getElem?_eq_getElem (by omega)
      have ih := ih (by omega)
      rcases calm (T.step _ _ hx) (hno _ _ (by omega) (by omega) hx) with ⟨h1, _⟩ | ⟨hA, hw, z, els, h1⟩
      · rw [show q + (n + 1) = q + n + 1 by omega, h1]; exact ih
      · rw [show q + (n + 1) = q + n + 1 by omega]
        intro id hid
        have hb := (I.hb _ _ hx hA hw (by omega)).1
        by_cases he : id = (tr (q + n)).h.length
        · rw [he]; exact hb
        · rw [h1] at hid ⊢
          simp only [newOb, List.length_append, List.length_cons, List.length_nil] at hid
          rw [ih id (by omega)]
          simp only [newOb]
          rw [List.getElem?_append_left (by omega)]
  have := this (i - q) (by omega)
  rwa [show q + (i - q) = i by omega] at this

/-- what is loaded is what the text's order loads -/
theorem Inv.loads (T : Trace P cfg run ops un st st' tr) (hinfo : Info P cfg ops un) (hlen : RunLen run) (I : Inv ds P cfg ops st st' tr c0 S q c a) {i : Nat} {o : Oper} (ho : ops[i]? = some o) (hS : S i = false)
    (hrdy : ∀ k, ((Region.before ops).getD i 0).testBit k = true → S k = true) {t : TypeId} {xo : Operand} (hop : o.op = .load t xo) (hw : wantD ops o (tr i).σ = some true) {id ver k l : Nat} (hev : ev (tr i).σ xo = some (.ptr id ver k l))
    {d : D} (hld : ldD P (tr i).h t (.ptr id ver k l) = some d) (hhs : ∃ x, c.hs id = some x) : ∃ ob s g, c.hs id = some ob ∧ ob.ver = ver ∧ aggT P t = some g ∧ szT P t = some s ∧ ldEls ob.els k l s g = some d := by
  have hi : i < ops.size := (Array.getElem?_eq_some_iff.1 ho).1
  have hL : isL o = true := by unfold isL; rw [hop]
  have hnl : loud P cfg o = false := by unfold loud isE; rw [hop]; rfl
  -- from a heap that tells it to the context
  have fin : ∀ m, c.hs id = (tr m).h[id]? → ldD P (tr m).h t (.ptr id ver k l) = some d → ∃ ob s g, c.hs id = some ob ∧ ob.ver = ver ∧ aggT P t = some g ∧ szT P t = some s ∧ ldEls ob.els k l s g = some d := by
    intro m h1 h2
    unfold ldD at h2
    split at h2
    · rename_i h3; cases h3
    · rename_i g s id' ver' i' j' ha hs h3
      cases h3
      split at h2
      · rename_i ob hob
        split at h2
        · rename_i hv; exact ⟨ob, s, g, by rw [h1]; exact hob, hv, ha, hs, h2⟩
        · cases h2
      · cases h2
    · cases h2
  have hidi : id < (tr i).h.length := by
    unfold ldD at hld
    split at hld
    · rename_i h3; cases h3
    · rename_i g s id' ver' i' j' ha hs h3
      cases h3
      split at hld
      · rename_i ob hob; exact (List.getElem?_eq_some_iff.1 hob).1
      · cases hld
    · cases hld
  -- backwards
  have back : ∀ n m, m + n = i → q ≤ m → id < (tr m).h.length → ldD P (tr m).h t (.ptr id ver k l) = some d := by
    intro n
    induction n with
    | zero => intro m hm _ _; rw [show m = i by omega]; exact hld
    | succ n ih =>
      intro m hm hq hid
      have hx : ops[m]? = some ops[m] := Array.getElem?_eq_getElem (by omega)
      have h1 := ih (m + 1) (by omega) (by omega) (Nat.lt_of_lt_of_le hid (T.h_le hlen (by omega)))
      by_cases hld' : loud P cfg ops[m] = true
      · have hSm : S m = false := by
          cases hSm : S m with
          | false => rfl
          | true => have := (I.q1 m _ hx hld').1 hSm; omega
        obtain ⟨b, hb⟩ := T.want m _ hx
        cases b with
        | true =>
          have hun := hinfo.un i m o _ ho hx hL hld' (by
            unfold ordered
            rw [Nat.max_eq_left (by omega), Nat.min_eq_right (by omega)]
            cases hbit : ((Region.before ops).getD i 0).testBit m with
            | false => rfl
            | true => rw [hrdy m hbit] at hSm; cases hSm)
          rw [T.chk i m o _ t xo id ver k l ho hx hop hw hev hld' hb hun]; exact h1
        | false =>
          rcases (step_parts (T.step m _ hx)).2.2.2 with ⟨hw', _⟩ | ⟨_, e1, _⟩
          · rw [hb] at hw'; cases hw'
          · rw [← e1]; exact h1
      · rcases calm (T.step m _ hx) (by simpa using hld') with ⟨e1, _⟩ | ⟨_, _, z, els, e1⟩
        · rw [← e1]; exact h1
        · rw [e1, ldD_app hid] at h1; exact h1
  by_cases hid : id < (tr q).h.length
  · refine fin q (I.ha id hid) ?_
    by_cases hqi : q ≤ i
    · exact back (i - q) q (by omega) (Nat.le_refl _) hid
    · -- forwards
      have fwd : ∀ n, i + n ≤ q → ldD P (tr (i + n)).h t (.ptr id ver k l) = some d := by
        intro n
        induction n with
        | zero => intro _; exact hld
        | succ n ih =>
          intro hn
          have h1 := ih (by omega)
          have hsz : i + n < ops.size := by have := I.q2; omega
          have hx : ops[i + n]? = some ops[i + n] := Array.getElem?_eq_getElem hsz
          have hid' : id < (tr (i + n)).h.length := Nat.lt_of_lt_of_le hidi (T.h_mono hlen _ (by omega) (by omega))
          rw [show i + (n + 1) = i + n + 1 by omega]
          by_cases hld' : loud P cfg ops[i + n] = true
          · have hSm : S (i + n) = true := (I.q1 _ _ hx hld').2 (by omega)
            have hne : n ≠ 0 := by
              rintro rfl
              rw [Nat.add_zero] at hSm
              rw [hS] at hSm; cases hSm
            obtain ⟨b, hb⟩ := T.want _ _ hx
            cases b with
            | true =>
              have hun := hinfo.un i (i + n) o _ ho hx hL hld' (by
                unfold ordered
                rw [Nat.max_eq_right (by omega), Nat.min_eq_left (by omega)]
                cases hbit : ((Region.before ops).getD (i + n) 0).testBit i with
                | false => rfl
                | true => rw [I.down _ hSm i hbit] at hS; cases hS)
              rw [← T.chk i (i + n) o _ t xo id ver k l ho hx hop hw hev hld' hb hun]; exact h1
            | false =>
              rcases (step_parts (T.step _ _ hx)).2.2.2 with ⟨hw', _⟩ | ⟨_, e1, _⟩
              · rw [hb] at hw'; cases hw'
              · rw [e1]; exact h1
          · rcases calm (T.step _ _ hx) (by simpa using hld') with ⟨e1, _⟩ | ⟨_, _, z, els, e1⟩
            · rw [e1]; exact h1
            · rw [e1, ldD_app hid']; exact h1
      have := fwd (q - i) (by omega)
      rwa [show i + (q - i) = q by omega] at this
  · -- laid in this region
    have hqi : q ≤ i := by
      rcases Nat.lt_or_ge i q with h | h
      · exact absurd (Nat.lt_of_lt_of_le hidi (T.h_mono hlen q (by omega) I.q2)) hid
      · exact h
    obtain ⟨x, hx1, hx2, hx3, hx4⟩ : ∃ x, q ≤ x ∧ x < i ∧ (tr x).h.length ≤ id ∧ id < (tr (x + 1)).h.length := by
      have : ∀ n, q + n ≤ i → id < (tr (q + n)).h.length → ∃ x, q ≤ x ∧ x < q + n ∧ (tr x).h.length ≤ id ∧ id < (tr (x + 1)).h.length := by
        intro n
        induction n with
        | zero => intro _ h; exact absurd h hid
        | succ n ih =>
          intro hn h
          by_cases h2 : id < (tr (q + n)).h.length
          · obtain ⟨x, a1, a2, a3, a4⟩ := ih (by omega) h2
            exact ⟨x, a1, by omega, a3, a4⟩
          · exact ⟨q + n, by omega, by omega, by omega, h⟩
      obtain ⟨x, a1, a2, a3, a4⟩ := this (i - q) (by omega) (by rw [show q + (i - q) = i by omega]; exact hidi)
      exact ⟨x, a1, by omega, a3, a4⟩
    have hx : ops[x]? = some ops[x] := Array.getElem?_eq_getElem (by omega)
    by_cases hld' : loud P cfg ops[x] = true
    · have := (I.hc x _ hx hld' hx1 id hx3 hx4).1
      obtain ⟨y, hy⟩ := hhs
      rw [this] at hy; cases hy
    · rcases calm (T.step x _ hx) (by simpa using hld') with ⟨e1, _⟩ | ⟨hA, hwx, z, els, e1⟩
      · rw [e1] at hx4; omega
      · have hid2 : id = (tr x).h.length := by
          rw [e1] at hx4
          simp only [newOb, List.length_append, List.length_cons, List.length_nil] at hx4
          omega
        refine fin (x + 1) (by rw [hid2]; exact (I.hb x _ hx hA hwx hx1).1) (back (i - (x + 1)) (x + 1) (by omega) (by omega) hx4)

/-- the next operation, whichever it is -/
theorem Inv.next (T : Trace P cfg run ops un st st' tr) (hinfo : Info P cfg ops un) (I : Inv ds P cfg ops st st' tr c0 S q c a) {i : Nat} {o : Oper} (ho : ops[i]? = some o) (hS : S i = false)
    (hrdy : ∀ k, ((Region.before ops).getD i 0).testBit k = true → S k = true) {c' : Cx} {v : Value} {q' : Nat} (hext : Ext c c') (hr' : HR c') (hbel : Below c.N0 c.w c'.w)
    (hv : ∀ t, o.dst = some t → RV c' ((tr (i + 1)).σ t) v)
    (q1 : ∀ (j : Nat) y, ops[j]? = some y → loud P cfg y = true → ((if j = i then true else S j) = true ↔ j < q')) (q2 : q' ≤ ops.size)
    (q3 : q' = 0 ∨ ∃ y, ops[q' - 1]? = some y ∧ loud P cfg y = true ∧ (if q' - 1 = i then true else S (q' - 1)) = true)
    (ha : ∀ id, id < (tr q').h.length → c'.hs id = (tr q').h[id]?)
    (hb : ∀ (j : Nat) x, ops[j]? = some x → isA cfg x = true → wantD ops x (tr j).σ = some true → q' ≤ j → c'.hs (tr j).h.length = (tr (j + 1)).h[(tr j).h.length]? ∧ ((if j = i then true else S j) = false → c'.μ (tr j).h.length = none))
    (hc : ∀ (j : Nat) y, ops[j]? = some y → loud P cfg y = true → q' ≤ j → ∀ id, (tr j).h.length ≤ id → id < (tr (j + 1)).h.length → c'.hs id = none ∧ c'.μ id = none)
    (hd : ∀ id, st'.h.length ≤ id → c'.hs id = c.hs id ∧ c'.μ id = c.μ id)
    (he : ∀ id, id < st.h.length → c.μ id = none → c'.μ id = none) :
    Inv ds P cfg ops st st' tr c0 (fun j => if j = i then true else S j) q' c' (a.put o.dst v) := by
  have hi : i < ops.size := (Array.getElem?_eq_some_iff.1 ho).1
  obtain ⟨p1, p2, p3, p4⟩ := step_parts (T.step i o ho)
  have hmu : ∀ id b base, c.μ id = some (b, base) → b < c.w.heap.size := fun _ _ _ hm => I.hr.lt hm
  have hbind : (ops[i]?).bind (·.dst) = o.dst := by rw [ho]; rfl
  refine ⟨hr', I.ext.trans hext, I.bel.trans (by have := hbel; rw [I.ext.N0] at this; exact this), ?_, ?_, fun t => ?_, fun j hj k hk => ?_, fun j hj => ?_, q1, q2, q3, ha, hb, hc,
    fun id h => ⟨(hd id h).1.trans (I.hd id h).1, (hd id h).2.trans (I.hd id h).2⟩, fun id h hm => he id h (I.he id h hm)⟩
  · cases o.dst <;> exact I.df
  · cases o.dst <;> simp [Act.put, I.sz]
  · by_cases hdst : o.dst = some t
    · rw [tv_new hi (by rw [hbind]; exact hdst) fun j hj hdj => ?_]
      · have hlt : t < a.tmps.size := by rw [I.sz, ← T.n_eq i (by omega)]; exact p3 t hdst
        have : (a.put o.dst v).tmps.getD t undef = v := by
          rw [hdst]; simp only [Act.put]
          rw [Array.getD_eq_getD_getElem?, Array.getElem?_setIfInBounds_self_of_lt hlt]; rfl
        rw [this]
        exact hv t hdst
      · -- no later writer has run
        cases hSj : S j with
        | false => rfl
        | true =>
          exfalso
          have hjn := I.lim j hSj
          have hoj : ops[j]? = some ops[j] := Array.getElem?_eq_getElem hjn
          have hdj' : (ops[j]).dst = some t := by rw [hoj] at hdj; exact hdj
          rcases hinfo.pair i j o _ ho hoj hj with h | ⟨_, h, _⟩
          · rw [I.down j hSj i h] at hS; cases hS
          · exact (Oper.apart_spec h).2.1 t hdst hdj'
    · rw [tv_set hS (by rw [hbind]; exact hdst)]
      have : (a.put o.dst v).tmps.getD t undef = a.tmps.getD t undef := by
        cases hd' : o.dst with
        | none => rfl
        | some u =>
          simp only [Act.put]
          rw [Array.getD_eq_getD_getElem?, Array.getElem?_setIfInBounds_ne (fun e => hdst (by rw [hd', e])), ← Array.getD_eq_getD_getElem?]
      rw [this]
      exact (I.tmp t).ext hext hmu
  · by_cases hji : j = i
    · subst hji
      by_cases hki : k = j
      · rw [if_pos hki]
      · rw [if_neg hki]; exact hrdy k hk
    · simp only [if_neg hji] at hj
      by_cases hki : k = i
      · rw [if_pos hki]
      · rw [if_neg hki]; exact I.down j hj k hk
  · by_cases hji : j = i
    · rw [hji]; exact hi
    · simp only [if_neg hji] at hj; exact I.lim j hj

/-- what an operation reads is what it reads in the text's order -/
theorem Inv.reads (T : Trace P cfg run ops un st st' tr) (hinfo : Info P cfg ops un) (I : Inv ds P cfg ops st st' tr c0 S q c a) {i : Nat} {o : Oper} (ho : ops[i]? = some o) (hS : S i = false)
    (hrdy : ∀ k, ((Region.before ops).getD i 0).testBit k = true → S k = true) {t : Tmp} (ht : t ∈ o.looksAt ops) : tvN ops tr st S ops.size t = (tr i).σ t := by
  have hi : i < ops.size := (Array.getElem?_eq_some_iff.1 ho).1
  rw [tv_stay (m := i) ops.size (by omega) fun j h1 h2 h3 => ?_, T.tv_all i (by omega) fun j hj hdj => ?_]
  · have hoj : ops[j]? = some ops[j] := Array.getElem?_eq_getElem (by omega)
    have hdj' : (ops[j]).dst = some t := by rw [hoj] at hdj; exact hdj
    rcases hinfo.pair j i _ o hoj ho hj with h | ⟨_, h, _⟩
    · exact hrdy j h
    · exact absurd ht ((Oper.apart_spec h).1 t hdj')
  · by_cases hji : j = i
    · rw [hji]; exact hS
    · have hoj : ops[j]? = some ops[j] := Array.getElem?_eq_getElem h2
      have hdj' : (ops[j]).dst = some t := by rw [hoj] at h3; exact h3
      cases hSj : S j with
      | false => rfl
      | true =>
        exfalso
        rcases hinfo.pair i j o _ ho hoj (by omega) with h | ⟨_, h, _⟩
        · rw [I.down j hSj i h] at hS; cases hS
        · exact absurd ht ((Oper.apart_spec h).2.2 t hdj')

theorem isA_nm' (o : Oper) : isA cfg.nm o = isA cfg o := rfl
theorem loud_nm (o : Oper) : loud P cfg.nm o = loud P cfg o := rfl

theorem Inv.go (T : Trace P cfg run ops un st st' tr) (hinfo : Info P cfg ops un) (hrun : RunOk P run) (hlen : RunLen run) (hext : ExtOk P cfg) (I : Inv ds P cfg ops st st' tr c0 S q c a) {i : Nat} {o : Oper} (ho : ops[i]? = some o)
    (hS : S i = false) (hrdy : ∀ k, ((Region.before ops).getD i 0).testBit k = true → S k = true) {Q : Exit → Act → World → Prop} :
    wpOp P ops Q i (fun a' w' => ∃ c' q', c'.w = w' ∧ Inv ds P cfg ops st st' tr c0 (fun j => if j = i then true else S j) q' c' a') a c.w := by
  have hi : i < ops.size := (Array.getElem?_eq_some_iff.1 ho).1
  have hmu : ∀ id b base, c.μ id = some (b, base) → b < c.w.heap.size := fun _ _ _ hm => I.hr.lt hm
  have hrd := fun t (ht : t ∈ o.looksAt ops) => I.reads T hinfo ho hS hrdy ht
  have hrdo : ∀ t, .tmp t ∈ o.op.operands.toList → tvN ops tr st S ops.size t = (tr i).σ t := fun t ht => hrd t (List.mem_append_left _ (List.mem_filterMap.2 ⟨.tmp t, ht, rfl⟩))
  have hwant : wantD ops o (tvN ops tr st S ops.size) = wantD ops o (tr i).σ := by
    unfold wantD
    cases hg : o.guard with
    | none => rfl
    | some gw =>
      obtain ⟨g, want⟩ := gw
      simp only
      cases hgd : (ops[g]?).bind (·.dst) with
      | none => rfl
      | some t =>
        simp only
        rw [hrd t (by unfold Oper.looksAt; rw [hg]; simp [hgd])]
  have hstep := step_parts (T.step i o ho)
  -- loud ones stand in order
  have hbefore : ∀ (j : Nat) y, ops[j]? = some y → loud P cfg y = true → isE P o = true → j < i → S j = true := by
    intro j y hy hl hE hj
    rcases hinfo.pair j i y o hy ho hj with h | ⟨h, _⟩
    · exact hrdy j h
    · exact absurd ⟨by unfold loud at hl; simp only [Bool.and_eq_true] at hl; exact hl.1, hE⟩ h
  have hafter : ∀ (j : Nat) y, ops[j]? = some y → loud P cfg y = true → isE P o = true → i < j → S j = false := by
    intro j y hy hl hE hj
    cases hSj : S j with
    | false => rfl
    | true =>
      rcases hinfo.pair i j o y ho hy hj with h | ⟨h, _⟩
      · rw [I.down j hSj i h] at hS; cases hS
      · exact absurd ⟨hE, by unfold loud at hl; simp only [Bool.and_eq_true] at hl; exact hl.1⟩ h
  have hqi : isE P o = true → q ≤ i := by
    intro hE
    rcases Nat.lt_or_ge i q with h | h
    · rcases I.q3 with h0 | ⟨y, hy, hl, hSq⟩
      · omega
      · by_cases he : q - 1 = i
        · rw [he, hS] at hSq; cases hSq
        · rw [hafter (q - 1) y hy hl hE (by omega)] at hSq; cases hSq
    · exact h
  have hnoloud : isE P o = true → ∀ (x : Nat) y, q ≤ x → x < i → ops[x]? = some y → loud P cfg y = false := by
    intro hE x y h1 h2 hy
    cases hl : loud P cfg y with
    | false => rfl
    | true => have := (I.q1 x y hy hl).1 (hbefore x y hy hl hE h2); omega
  -- q stays, if the operation is not loud
  have q1n : loud P cfg o = false → ∀ (j : Nat) y, ops[j]? = some y → loud P cfg y = true → ((if j = i then true else S j) = true ↔ j < q) := by
    intro hl j y hy hly
    by_cases hji : j = i
    · subst hji; rw [ho] at hy; cases hy; rw [hl] at hly; cases hly
    · rw [if_neg hji]; exact I.q1 j y hy hly
  have q3n : q = 0 ∨ ∃ y, ops[q - 1]? = some y ∧ loud P cfg y = true ∧ (if q - 1 = i then true else S (q - 1)) = true := by
    rcases I.q3 with h | ⟨y, h1, h2, h3⟩
    · exact .inl h
    · refine .inr ⟨y, h1, h2, ?_⟩
      split
      · rfl
      · exact h3
  unfold wpOp
  simp only [ho]
  rcases hstep.2.2.2 with ⟨hw, d, h', hop, hh, hσ⟩ | ⟨hw, hh, hσ⟩
  · -- it is wanted
    have hyw : Region.wanted o (yielded ops a.tmps) = true := yielded_of (st := ⟨tvN ops tr st S ops.size, [], 0⟩) I.tmp (hwant.trans hw)
    rw [hyw, if_pos rfl]
    refine .inl ?_
    by_cases hA : isA cfg o = true
    · -- it lays an object
      have hl : loud P cfg o = false := by unfold isA at hA; unfold loud isE; split at hA <;> simp_all
      rw [opD_congr (τ := tvN ops tr st S ops.size) (m := (tr i).n) fun t ht => (hrdo t ht).symm] at hop
      obtain ⟨z, els, mk, e1, e2, e3⟩ := A_ok (cfg := cfg.nm) hA hop
      rw [← hh] at e1
      -- if a loud one of later stands in S, this one does too
      have hqi' : q ≤ i := by
        rcases Nat.lt_or_ge i q with h | h
        · rcases I.q3 with h0 | ⟨y, hy, hly, hSq⟩
          · omega
          · by_cases he : q - 1 = i
            · rw [he, hS] at hSq; cases hSq
            · rcases hinfo.pair i (q - 1) o y ho hy (by omega) with hb | ⟨_, _, hb⟩
              · rw [I.down _ hSq i hb] at hS; cases hS
              · exact absurd ⟨hA, hly⟩ hb
        · exact h
      obtain ⟨b1, b2⟩ := I.hb i o ho hA hw hqi'
      have hnew : (tr (i + 1)).h[(tr i).h.length]? = some ⟨0, z, els, 0⟩ := by rw [e1]; simp [newOb]
      refine Oper.wp_mono ?_ (e3 c a I.hr I.tmp (tr i).h.length ⟨b2 hS, .inr (by rw [b1, hnew])⟩ Q)
      rintro a' w' ⟨v, rfl, hal, hrv⟩
      refine ⟨_, q, rfl, I.next T hinfo ho hS hrdy hal.ext hal.hr hal.bel (fun t ht => by rw [hσ t ht, e2]; exact hrv) (q1n hl) I.q2 q3n (fun id hid => ?_) (fun j x hx hAx hwx hqj => ?_) (fun j y hy hly hqj id h1 h2 => ?_) (fun id hid => ?_) (fun id hid hm => ?_)⟩
      · have hlt : id < (tr i).h.length := Nat.lt_of_lt_of_le hid (T.h_mono hlen i hqi' (by omega))
        simp only [addOb, if_neg (Nat.ne_of_lt hlt)]
        exact I.ha id hid
      · by_cases hji : j = i
        · subst hji
          rw [ho] at hx; cases hx
          exact ⟨by simp only [addOb, if_pos]; rw [hnew], by simp⟩
        · have hne : (tr j).h.length ≠ (tr i).h.length := by
            rcases Nat.lt_or_gt_of_ne hji with h | h
            · have h1 : (tr (j + 1)).h.length ≤ (tr i).h.length := T.h_mono hlen i (by omega) (by omega)
              rcases calm (T.step j x hx) (by unfold isA at hAx; unfold loud isE; split at hAx <;> simp_all) with ⟨_, h2⟩ | ⟨_, _, z', els', h2⟩
              · exact absurd ⟨hAx, hwx⟩ h2
              · rw [h2] at h1; simp only [newOb, List.length_append, List.length_cons, List.length_nil] at h1; omega
            · have hjs : j < ops.size := (Array.getElem?_eq_some_iff.1 hx).1
              have h1 : (tr (i + 1)).h.length ≤ (tr j).h.length := T.h_mono hlen j (by omega) (by omega)
              rw [e1] at h1; simp only [newOb, List.length_append, List.length_cons, List.length_nil] at h1; omega
          simp only [addOb, if_neg hne, if_neg hji]
          exact I.hb j x hx hAx hwx hqj
      · have hne : id ≠ (tr i).h.length := by
          have hjs : j < ops.size := (Array.getElem?_eq_some_iff.1 hy).1
          have hji : j ≠ i := by rintro rfl; rw [ho] at hy; cases hy; rw [hl] at hly; cases hly
          rcases Nat.lt_or_gt_of_ne hji with h | h
          · have h1' : (tr (j + 1)).h.length ≤ (tr i).h.length := T.h_mono hlen i (by omega) (by omega)
            omega
          · have h1' : (tr (i + 1)).h.length ≤ (tr j).h.length := T.h_mono hlen j (by omega) (by omega)
            rw [e1] at h1'; simp only [newOb, List.length_append, List.length_cons, List.length_nil] at h1'; omega
        simp only [addOb, if_neg hne]
        exact I.hc j y hy hly hqj id h1 h2
      · have h1' : (tr (i + 1)).h.length ≤ st'.h.length := by rw [← T.tn]; exact T.h_mono hlen _ (by omega) (Nat.le_refl _)
        rw [e1] at h1'; simp only [newOb, List.length_append, List.length_cons, List.length_nil] at h1'
        simp only [addOb, if_neg (show ¬ id = (tr i).h.length by omega), and_self]
      · have h1' : st.h.length ≤ (tr i).h.length := by rw [← T.t0]; exact T.h_mono hlen _ (by omega) (by omega)
        simp only [addOb, if_neg (show ¬ id = (tr i).h.length by omega)]
        exact hm
    · by_cases hE : isE P o = true
      · -- it may write
        have hag : Ag c (tr i).h := I.agree T hlen (by omega) (hqi hE) (hnoloud hE)
        have hop' := hop
        rw [opD_congr (τ := tvN ops tr st S ops.size) (m := st.n) fun t ht => (hrdo t ht).symm] at hop
        have hq2 := hqi hE
        have hle : (tr i).h.length ≤ h'.length := by rw [← hh]; exact T.h_le hlen hi
        have hfree : Free c (tr i).h h' := by
          intro id h1 h2
          by_cases hl : loud P cfg o = true
          · exact (I.hc i o ho hl hq2 id h1 (by rw [hh]; exact h2)).symm
          · have := quiet_h (cfg := cfg.nm) rfl (show isA cfg o = false by simpa using hA) (by rw [loud_nm]; simpa using hl) hop'
            rw [this] at h2
            have h3 : id < (tr i).h.length := h2
            omega
        refine Oper.wp_mono ?_ (opD_ok (cfg := cfg.nm) (st := ⟨tvN ops tr st S ops.size, (tr i).h, st.n⟩) hrun ⟨hext.ok⟩ I.hr ⟨I.df, I.sz, I.tmp, hag⟩ hfree hop)
        rintro a' w' ⟨v, c', rfl, rfl, hs, hrv⟩
        have hag' : ∀ id, id < (tr (i + 1)).h.length → c'.hs id = (tr (i + 1)).h[id]? := by rw [hh]; exact hs.ag
        have hout' : ∀ id, (tr (i + 1)).h.length ≤ id → c'.hs id = c.hs id ∧ c'.μ id = c.μ id := by rw [hh]; exact hs.out
        have hend : ∀ id, st'.h.length ≤ id → c'.hs id = c.hs id ∧ c'.μ id = c.μ id := fun id hid => hout' id (by
          have : (tr (i + 1)).h.length ≤ st'.h.length := by rw [← T.tn]; exact T.h_mono hlen _ (by omega) (Nat.le_refl _)
          omega)
        have hbeg : ∀ id, id < st.h.length → c.μ id = none → c'.μ id = none := fun id hid hm => hs.unm id (by
          have : st.h.length ≤ (tr i).h.length := by rw [← T.t0]; exact T.h_mono hlen _ (by omega) (by omega)
          show id < (tr i).h.length
          omega) hm
        by_cases hl : loud P cfg o = true
        · refine ⟨c', i + 1, rfl, I.next T hinfo ho hS hrdy hs.ext hs.hr hs.bel (fun t ht => by rw [hσ t ht]; exact hrv) (fun j y hy hly => ?_) (by omega) (.inr ⟨o, by simpa using ho, hl, by simp⟩) hag'
            (fun j x hx hAx hwx hqj => ?_) (fun j y hy hly hqj id h1 h2 => ?_) hend hbeg⟩
          · by_cases hji : j = i
            · rw [if_pos hji]; simp; omega
            · rw [if_neg hji]
              rcases Nat.lt_or_gt_of_ne hji with h | h
              · rw [hbefore j y hy hly hE h]; simp; omega
              · rw [hafter j y hy hly hE h]; simp; omega
          · have hjs : j < ops.size := (Array.getElem?_eq_some_iff.1 hx).1
            obtain ⟨o1, o2⟩ := hout' _ (T.h_mono hlen j hqj (by omega))
            rw [o1, o2, if_neg (by omega)]
            exact I.hb j x hx hAx hwx (by omega)
          · have hjs : j < ops.size := (Array.getElem?_eq_some_iff.1 hy).1
            have := T.h_mono hlen j hqj (by omega)
            obtain ⟨o1, o2⟩ := hout' id (by omega)
            rw [o1, o2]
            exact I.hc j y hy hly (by omega) id h1 h2
        · have hl : loud P cfg o = false := by simpa using hl
          have heq : h' = (tr i).h := quiet_h (cfg := cfg.nm) rfl (show isA cfg o = false by simpa using hA) hl hop'
          rw [heq] at hh
          refine ⟨c', q, rfl, I.next T hinfo ho hS hrdy hs.ext hs.hr hs.bel (fun t ht => by rw [hσ t ht]; exact hrv) (q1n hl) I.q2 q3n (fun id hid => ?_) (fun j x hx hAx hwx hqj => ?_) (fun j y hy hly hqj id h1 h2 => ?_) hend hbeg⟩
          · have hlt : id < (tr i).h.length := Nat.lt_of_lt_of_le hid (T.h_mono hlen i hq2 (by omega))
            rw [hag' id (by rw [hh]; exact hlt), hh, ← hag id hlt]
            exact I.ha id hid
          · have hjs : j < ops.size := (Array.getElem?_eq_some_iff.1 hx).1
            by_cases hji : j = i
            · subst hji; rw [ho] at hx; cases hx; exact absurd hAx hA
            · rw [if_neg hji]
              obtain ⟨g1, g2⟩ := I.hb j x hx hAx hwx hqj
              rcases Nat.lt_or_gt_of_ne hji with h | h
              · have hlt : (tr j).h.length < (tr i).h.length := by
                  have h1 : (tr (j + 1)).h.length ≤ (tr i).h.length := T.h_mono hlen i (by omega) (by omega)
                  rcases calm (T.step j x hx) (by unfold isA at hAx; unfold loud isE; split at hAx <;> simp_all) with ⟨_, h2⟩ | ⟨_, _, z', els', h2⟩
                  · exact absurd ⟨hAx, hwx⟩ h2
                  · rw [h2] at h1; simp only [newOb, List.length_append, List.length_cons, List.length_nil] at h1; omega
                refine ⟨?_, fun hSj => ?_⟩
                · rw [hag' _ (by rw [hh]; exact hlt), hh, ← hag _ hlt]; exact g1
                · exact hs.unm _ hlt (g2 hSj)
              · obtain ⟨o1, o2⟩ := hout' (tr j).h.length (T.h_mono hlen j (by omega) (by omega))
                rw [o1, o2]; exact ⟨g1, g2⟩
          · have hjs : j < ops.size := (Array.getElem?_eq_some_iff.1 hy).1
            have hji : i < j := by
              rcases Nat.lt_or_ge i j with h | h
              · exact h
              · have : j ≠ i := by rintro rfl; rw [ho] at hy; cases hy; rw [hl] at hly; cases hly
                have := (hnoloud hE j y hqj (by omega) hy); rw [this] at hly; cases hly
            have := T.h_mono hlen j (show i + 1 ≤ j by omega) (by omega)
            obtain ⟨o1, o2⟩ := hout' id (by omega)
            rw [o1, o2]
            exact I.hc j y hy hly hqj id h1 h2
      · have hE : isE P o = false := by simpa using hE
        have hA : isA cfg o = false := by simpa using hA
        have hl : loud P cfg o = false := by unfold loud; rw [hE]; rfl
        by_cases hL : isL o = true
        · -- it loads
          have hop' := hop
          rw [opD_congr (τ := tvN ops tr st S ops.size) (m := (tr i).n) fun t ht => (hrdo t ht).symm] at hop
          obtain ⟨e1, t, xo, p, e2, e3, e4, e5⟩ := L_ok hL hop
          have hev : ev (tr i).σ xo = some p := by
            rw [← e3]
            exact ev_congr fun u hu => (hrdo u (by rw [e2]; simp [Op.operands, hu])).symm
          refine Oper.wp_mono ?_ (e5 c a I.hr I.tmp (fun id ver k l hp => ?_) Q)
          · rintro a' w' ⟨v, rfl, rfl, hrv⟩
            refine ⟨c, q, rfl, I.next T hinfo ho hS hrdy (.refl c) I.hr (.refl _ _) (fun t ht => by rw [hσ t ht]; exact hrv) (q1n hl) I.q2 q3n I.ha (fun j x hx hAx hwx hqj => ?_) I.hc (fun _ _ => ⟨rfl, rfl⟩) (fun _ _ h => h)⟩
            obtain ⟨g1, g2⟩ := I.hb j x hx hAx hwx hqj
            refine ⟨g1, fun h => g2 ?_⟩
            split at h
            · cases h
            · exact h
          · subst hp
            have hrv := evs_rv I.tmp e3
            have hhs : ∃ x, c.hs id = some x := by
              generalize a.eval xo = vv at hrv
              cases hrv with
              | cl h => cases h
              | ptrs h _ => exact ⟨_, h⟩
              | ptr h _ _ _ => exact ⟨_, h⟩
            obtain ⟨ob, s, g, k1, k2, k3, k4, k5⟩ := I.loads T hinfo hlen ho hS hrdy e2 hw hev e4 hhs
            exact ⟨ob, s, g, k1, k2, k3, k4, k5⟩
        · -- it looks at no memory
          have hL : isL o = false := by simpa using hL
          rw [opD_congr (τ := tvN ops tr st S ops.size) (m := st.n) fun t ht => (hrdo t ht).symm] at hop
          obtain ⟨e1, e2⟩ := pure_any (cfg := cfg.nm) (h2 := (tr q).h) hE hA hL hop
          refine Oper.wp_mono ?_ (opD_ok (cfg := cfg.nm) (st := ⟨tvN ops tr st S ops.size, (tr q).h, st.n⟩) hrun ⟨hext.ok⟩ I.hr ⟨I.df, I.sz, I.tmp, I.ha⟩ (fun id h1 h2 => by
            have h3 : (tr q).h.length ≤ id := h1
            omega) e2)
          rintro a' w' ⟨v, c', rfl, rfl, hs, hrv⟩
          have hend : ∀ id, (tr q).h.length ≤ id → c'.hs id = c.hs id ∧ c'.μ id = c.μ id := hs.out
          refine ⟨c', q, rfl, I.next T hinfo ho hS hrdy hs.ext hs.hr hs.bel (fun t ht => by rw [hσ t ht]; exact hrv) (q1n hl) I.q2 q3n hs.ag (fun j x hx hAx hwx hqj => ?_) (fun j y hy hly hqj id h1 h2 => ?_) (fun id hid => ?_) (fun id hid hm => ?_)⟩
          · have hjs : j < ops.size := (Array.getElem?_eq_some_iff.1 hx).1
            obtain ⟨o1, o2⟩ := hend _ (T.h_mono hlen j hqj (by omega))
            rw [o1, o2]
            obtain ⟨g1, g2⟩ := I.hb j x hx hAx hwx hqj
            refine ⟨g1, fun h => g2 ?_⟩
            split at h
            · cases h
            · exact h
          · have hjs : j < ops.size := (Array.getElem?_eq_some_iff.1 hy).1
            have := T.h_mono hlen j hqj (by omega)
            obtain ⟨o1, o2⟩ := hend id (by omega)
            rw [o1, o2]
            exact I.hc j y hy hly hqj id h1 h2
          · have : (tr q).h.length ≤ st'.h.length := by rw [← T.tn]; exact T.h_mono hlen _ I.q2 (Nat.le_refl _)
            exact hend id (by omega)
          · have : st.h.length ≤ (tr q).h.length := by rw [← T.t0]; exact T.h_mono hlen _ (by omega) I.q2
            exact hs.unm id (by show id < (tr q).h.length; omega) hm
  · -- it is not wanted
    have hyw : Region.wanted o (yielded ops a.tmps) = false := yielded_of (st := ⟨tvN ops tr st S ops.size, [], 0⟩) I.tmp (hwant.trans hw)
    rw [hyw]
    simp only [Bool.false_eq_true, if_false]
    by_cases hl : loud P cfg o = true
    · have hE : isE P o = true := by unfold loud at hl; simp only [Bool.and_eq_true] at hl; exact hl.1
      have hag : Ag c (tr i).h := I.agree T hlen (by omega) (hqi hE) (hnoloud hE)
      have hq2 := hqi hE
      refine ⟨c, i + 1, rfl, I.next T hinfo ho hS hrdy (.refl c) I.hr (.refl _ _) (fun t ht => by rw [hσ t ht]; exact .tup (vs := #[]) .nil) (fun j y hy hly => ?_) (by omega) (.inr ⟨o, by simpa using ho, hl, by simp⟩) (by rw [hh]; exact hag)
        (fun j x hx hAx hwx hqj => ?_) (fun j y hy hly hqj => I.hc j y hy hly (by omega)) (fun _ _ => ⟨rfl, rfl⟩) (fun _ _ h => h)⟩
      · by_cases hji : j = i
        · rw [if_pos hji]; simp; omega
        · rw [if_neg hji]
          rcases Nat.lt_or_gt_of_ne hji with h | h
          · rw [hbefore j y hy hly hE h]; simp; omega
          · rw [hafter j y hy hly hE h]; simp; omega
      · rw [if_neg (by omega)]; exact I.hb j x hx hAx hwx (by omega)
    · have hl : loud P cfg o = false := by simpa using hl
      refine ⟨c, q, rfl, I.next T hinfo ho hS hrdy (.refl c) I.hr (.refl _ _) (fun t ht => by rw [hσ t ht]; exact .tup (vs := #[]) .nil) (q1n hl) I.q2 q3n I.ha (fun j x hx hAx hwx hqj => ?_) I.hc (fun _ _ => ⟨rfl, rfl⟩) (fun _ _ h => h)⟩
      obtain ⟨g1, g2⟩ := I.hb j x hx hAx hwx hqj
      refine ⟨g1, fun h => g2 ?_⟩
      split at h
      · cases h
      · exact h
end
end
end Go.Proofs.YtlpadffinfijgaaW.Vm
