/- Comparisons, arithmetic, and what is built out of parts: the plain machine's are the model's. No conditions. -/
import Derived.Test.YtlpadffinfijgaaVmOpsB
set_option linter.unusedVariables false
set_option linter.unusedSimpArgs false
namespace Go.Proofs.YtlpadffinfijgaaW.Vm
open Go Go.RowKit

section
variable {P : Program} {c : Cx} {t : TypeId}

theorem scalEq_run {k : Nat} {a b : D} {u v : Value} {r : Bool} (ha : RV c a u) (hb : RV c b v) (h : scalEq k a b = some r) {d : Nat} (w : World) {td : TypeDesc} (hu : P.underlying t = some td)
    (hk : (k = 0 → td = .bool) ∧ (k = 1 → ∃ q, td = .int q) ∧ (k = 2 → td = .string)) : (Op.equalIn (d + 1) t u v).run P w = .ok r w := by
  unfold scalEq at h
  split at h
  · simp only [Option.some.injEq] at h; subst h
    obtain rfl := ha.bool; obtain rfl := hb.bool
    obtain rfl := hk.1 rfl
    exact run_equalIn_bool' w d t _ _ hu
  · split at h
    · rename_i hkk
      simp only [Option.some.injEq] at h; subst h
      obtain rfl := ha.int; obtain rfl := hb.int
      obtain ⟨q, rfl⟩ := hk.2.1 rfl
      subst hkk
      exact run_equalIn_int w d t _ q _ _ hu
    · cases h
  · simp only [Option.some.injEq] at h; subst h
    obtain rfl := ha.str; obtain rfl := hb.str
    obtain rfl := hk.2.2 rfl
    exact run_equalIn_string w d t _ _ hu
  · cases h
theorem scalsEq_append : ∀ {k1 k2 : List Nat} {xs ys : List D} {r : Bool}, scalsEq (k1 ++ k2) xs ys = some r →
    ∃ r1 r2, scalsEq k1 (xs.take k1.length) (ys.take k1.length) = some r1 ∧ scalsEq k2 (xs.drop k1.length) (ys.drop k1.length) = some r2 ∧ r = (r1 && r2)
  | [], k2, xs, ys, r, h => ⟨true, r, by simp [scalsEq], by simpa using h, by simp⟩
  | k :: k1, k2, [], ys, r, h => by simp [scalsEq] at h
  | k :: k1, k2, x :: xs, [], r, h => by simp [scalsEq] at h
  | k :: k1, k2, x :: xs, y :: ys, r, h => by
    simp only [List.cons_append, scalsEq] at h
    split at h
    · rename_i a b h1 h2
      simp only [Option.some.injEq] at h; subst h
      obtain ⟨r1, r2, h3, h4, h5⟩ := scalsEq_append h2
      refine ⟨a && r1, r2, ?_, by simpa using h4, by rw [h5, Bool.and_assoc]⟩
      simp only [List.length_cons, List.take_succ_cons, scalsEq, h1, h3]
    · cases h
theorem scalsEq_len : ∀ {ks : List Nat} {xs ys : List D} {r : Bool}, scalsEq ks xs ys = some r → xs.length = ks.length ∧ ys.length = ks.length
  | [], [], [], _, _ => ⟨rfl, rfl⟩
  | [], [], _ :: _, _, h => by simp [scalsEq] at h
  | [], _ :: _, _, _, h => by simp [scalsEq] at h
  | _ :: _, [], _, _, h => by simp [scalsEq] at h
  | _ :: _, _ :: _, [], _, h => by simp [scalsEq] at h
  | k :: ks, x :: xs, y :: ys, r, h => by
    simp only [scalsEq] at h
    split at h
    · rename_i h1 h2
      have := scalsEq_len h2
      simp [this]
    · cases h

/-- how a part of a type is spelt -/
def Spelt (P : Program) (c : Cx) (t : TypeId) (xs : List D) (v : Value) : Prop :=
  (aggT P t = some true ∧ ∃ vs : Array Value, v = .agg vs ∧ RVs c xs vs.toList) ∨ (aggT P t = some false ∧ ∃ x, xs = [x] ∧ RV c x v)

theorem fold_none (P : Program) (k : Nat) : ∀ fs : List Field, fs.foldl (fun acc f => match acc, flatN P k f.type with
      | some a, some n => if f.offset = a.length ∧ f.name ≠ "_" ∧ szT P f.type = some n.length then some (a ++ n) else none
      | _, _ => none) (none : Option (List Nat)) = none
  | [] => rfl
  | f :: fs => by simp only [List.foldl_cons]; exact fold_none P k fs

theorem flat_aggT {k : Nat} {ks : List Nat} (h : flatN P k t = some ks) : ∃ g, aggT P t = some g ∧ (g = false → ks.length = 1) := by
  cases k with
  | zero => simp [flatN] at h
  | succ k =>
    simp only [flatN] at h
    unfold aggT
    split at h <;> simp_all
    · subst h; rfl
    · subst h; rfl
    · subst h; rfl
theorem part_spelt {k off : Nat} {ks : List Nat} (h : flatN P k t = some ks) (hs : szT P t = some ks.length) {xs : List D} {vs : Array Value} (hr : RVs c xs vs.toList) (hl : off + ks.length ≤ xs.length) (w : World) :
    ∃ u, (part t vs off).run P w = .ok u w ∧ Spelt P c t ((xs.drop off).take ks.length) u := by
  obtain ⟨g, hg, h1⟩ := flat_aggT h
  cases g with
  | true =>
    refine ⟨_, run_partAgg hg hs vs w, .inl ⟨hg, _, rfl, ?_⟩⟩
    rw [Array.toList_extract, List.extract_eq_take_drop]
    simpa using (hr.drop off).take ks.length
  | false =>
    have hk := h1 rfl
    obtain ⟨x, hx⟩ : ∃ x, xs[off]? = some x := ⟨xs[off], List.getElem?_eq_getElem (by omega)⟩
    obtain ⟨u, h2, h3⟩ := hr.get hx
    refine ⟨u, run_partOne hg vs w (by simpa using h2), .inr ⟨hg, x, ?_, h3⟩⟩
    rw [hk]
    have hlt : off < xs.length := by omega
    rw [List.drop_eq_getElem_cons hlt]
    simp [List.getElem?_eq_getElem hlt] at hx
    simp [hx]

theorem equalIn_flat : ∀ (k : Nat) (t : TypeId) (ks : List Nat), flatN P k t = some ks → ∀ (d : Nat), k ≤ d → ∀ (xs ys : List D) (u v : Value) (r : Bool) (w : World), Spelt P c t xs u → Spelt P c t ys v →
    scalsEq ks xs ys = some r → (Op.equalIn d t u v).run P w = .ok r w := by
  intro k
  induction k with
  | zero => intro t ks h; simp [flatN] at h
  | succ k ih =>
    intro t ks h d hd xs ys u v r w su sv he
    obtain ⟨d, rfl⟩ : ∃ e, d = e + 1 := ⟨d - 1, by omega⟩
    have hnot : ∀ {td}, P.underlying t = some td → (td = .bool ∨ (∃ q, td = .int q) ∨ td = .string) → aggT P t = some false := by
      intro td hu hq; unfold aggT; rw [hu]; rcases hq with rfl | ⟨q, rfl⟩ | rfl <;> rfl
    simp only [flatN] at h
    split at h
    · rename_i hu
      simp only [Option.some.injEq] at h; subst h
      have ha := hnot hu (.inl rfl)
      rcases su with ⟨g, _⟩ | ⟨_, x, rfl, rx⟩
      · rw [ha] at g; cases g
      rcases sv with ⟨g, _⟩ | ⟨_, y, rfl, ry⟩
      · rw [ha] at g; cases g
      simp only [scalsEq] at he
      split at he
      · rename_i e1 e2
        simp only [Option.some.injEq] at he e2; subst he e2
        simpa using scalEq_run rx ry e1 w hu (by simp)
      · cases he
    · rename_i q hu
      simp only [Option.some.injEq] at h; subst h
      have ha := hnot hu (.inr (.inl ⟨q, rfl⟩))
      rcases su with ⟨g, _⟩ | ⟨_, x, rfl, rx⟩
      · rw [ha] at g; cases g
      rcases sv with ⟨g, _⟩ | ⟨_, y, rfl, ry⟩
      · rw [ha] at g; cases g
      simp only [scalsEq] at he
      split at he
      · rename_i e1 e2
        simp only [Option.some.injEq] at he e2; subst he e2
        simpa using scalEq_run rx ry e1 w hu (by simp)
      · cases he
    · rename_i hu
      simp only [Option.some.injEq] at h; subst h
      have ha := hnot hu (.inr (.inr rfl))
      rcases su with ⟨g, _⟩ | ⟨_, x, rfl, rx⟩
      · rw [ha] at g; cases g
      rcases sv with ⟨g, _⟩ | ⟨_, y, rfl, ry⟩
      · rw [ha] at g; cases g
      simp only [scalsEq] at he
      split at he
      · rename_i e1 e2
        simp only [Option.some.injEq] at he e2; subst he e2
        simpa using scalEq_run rx ry e1 w hu (by simp)
      · cases he
    · rename_i fs hu
      split at h
      · cases h
      · rename_i hst
        have ha : aggT P t = some true := by unfold aggT; rw [hu]; rfl
        obtain ⟨us, rfl, ru⟩ : ∃ us : Array Value, u = .agg us ∧ RVs c xs us.toList := by
          rcases su with ⟨_, h⟩ | ⟨g, _⟩
          · exact h
          · rw [ha] at g; cases g
        obtain ⟨vs, rfl, rv⟩ : ∃ us : Array Value, v = .agg us ∧ RVs c ys us.toList := by
          rcases sv with ⟨_, h⟩ | ⟨g, _⟩
          · exact h
          · rw [ha] at g; cases g
        have hfo : P.fieldsOf t = fs := by unfold Program.fieldsOf; rw [hu]
        rw [run_equalIn_struct w d t us vs (by rw [hfo]; exact hu) (by simpa using hst), hfo]
        obtain ⟨lx, ly⟩ := scalsEq_len he
        -- along the fields
        have key : ∀ (gs : List Field) (acc : List Nat) (r' : Bool), gs.foldl (fun acc f => match acc, flatN P k f.type with
              | some a, some n => if f.offset = a.length ∧ f.name ≠ "_" ∧ szT P f.type = some n.length then some (a ++ n) else none
              | _, _ => none) (some acc) = some ks → scalsEq (ks.drop acc.length) (xs.drop acc.length) (ys.drop acc.length) = some r' → (Op.eqFields d us vs gs).run P w = .ok r' w := by
          intro gs
          induction gs with
          | nil =>
            intro acc r' hf he'
            simp only [List.foldl_nil, Option.some.injEq] at hf; subst hf
            rw [List.drop_eq_nil_of_le (by omega), List.drop_eq_nil_of_le (by omega), List.drop_eq_nil_of_le (by omega)] at he'
            simp only [scalsEq, Option.some.injEq] at he'; subst he'
            rfl
          | cons f gs ihg =>
            intro acc r' hf he'
            simp only [List.foldl_cons] at hf
            cases hn : flatN P k f.type with
            | none => simp only [hn] at hf; rw [fold_none] at hf; cases hf
            | some n =>
              simp only [hn] at hf
              by_cases hc : f.offset = acc.length ∧ f.name ≠ "_" ∧ szT P f.type = some n.length
              · rw [if_pos hc] at hf
                -- acc ++ n is a beginning of ks
                have hpre : ∀ (gs : List Field) (a : List Nat), gs.foldl (fun acc f => match acc, flatN P k f.type with
                    | some a, some n => if f.offset = a.length ∧ f.name ≠ "_" ∧ szT P f.type = some n.length then some (a ++ n) else none
                    | _, _ => none) (some a) = some ks → ∃ z, ks = a ++ z := by
                  intro gs
                  induction gs with
                  | nil => intro a h; simp only [List.foldl_nil, Option.some.injEq] at h; exact ⟨[], by simp [h]⟩
                  | cons g gs ih2 =>
                    intro a h
                    simp only [List.foldl_cons] at h
                    cases hn : flatN P k g.type with
                    | none => simp only [hn] at h; rw [fold_none] at h; cases h
                    | some n =>
                      simp only [hn] at h
                      split at h
                      · obtain ⟨z, hz⟩ := ih2 _ h
                        exact ⟨n ++ z, by rw [hz, List.append_assoc]⟩
                      · rw [fold_none] at h; cases h
                obtain ⟨z, hz⟩ := hpre gs (acc ++ n) hf
                have hdrop : ks.drop acc.length = n ++ z := by rw [hz, List.append_assoc]; simp
                rw [hdrop] at he'
                obtain ⟨r1, r2, g1, g2, g3⟩ := scalsEq_append he'
                have hlen : acc.length + n.length ≤ ks.length := by rw [hz]; simp
                obtain ⟨p1, e1, s1⟩ := part_spelt hn hc.2.2 ru (off := f.offset) (by rw [hc.1]; omega) w
                obtain ⟨p2, e2, s2⟩ := part_spelt hn hc.2.2 rv (off := f.offset) (by rw [hc.1]; omega) w
                rw [hc.1] at s1 s2
                have e3 := ih f.type n hn d (by omega) _ _ p1 p2 r1 w s1 s2 g1
                simp only [Op.eqFields, if_pos hc.2.1, Sem.run_bind, e1, e2, e3, Result.andThen_ok]
                cases r1 with
                | false => simp [g3]
                | true =>
                  simp only [Bool.not_true, Bool.false_eq_true, if_false, Bool.true_and] at g3 ⊢
                  rw [g3]
                  refine ihg (acc ++ n) r2 hf ?_
                  rw [hz, List.length_append]
                  simp only [List.drop_drop] at g2
                  rw [show ((acc ++ n) ++ z).drop (acc.length + n.length) = z by rw [← List.length_append]; simp]
                  exact g2
              · rw [if_neg hc] at hf; rw [fold_none] at hf; cases hf
        exact key fs.toList [] r h (by simpa using he)
    · cases h

theorem elemT_und {e : TypeId} (h : elemT P t = some e) : P.underlying t = some (.slice e) := by
  unfold elemT at h
  split at h
  · rename_i e' hu
    simp only [Option.some.injEq] at h; subst h; exact hu
  · cases h
theorem RV.ownS {z id ver off len : Nat} {v : Value} (h : RV c (.own z id ver off len) v) : ∃ a n cap, v = .slice (some a) n cap := by
  cases h with
  | cl h => cases h
  | owns => exact ⟨_, _, _, rfl⟩
  | own => exact ⟨_, _, _, rfl⟩
theorem RV.ptrS {id ver i j : Nat} {v : Value} (h : RV c (.ptr id ver i j) v) : ∃ a, v = .pointer (some a) := by
  cases h with
  | cl h => cases h
  | ptrs => exact ⟨_, rfl⟩
  | ptr => exact ⟨_, rfl⟩
theorem RV.ifcS {q : TypeId} {d : D} {v : Value} (h : RV c (.ifc q d) v) : ∃ u, v = .iface q u := by
  cases h with
  | cl h => cases h with | ifc h => exact ⟨_, rfl⟩
  | ifc => exact ⟨_, rfl⟩
section
variable (d : Nat) (w : World)
theorem eqIn_sl1 {e : TypeId} (hu : P.underlying t = some (.slice e)) (b : Option Addr) (n m : Nat) : (Op.equalIn (d + 1) t (.slice none 0 0) (.slice b n m)).run P w = .ok b.isNone w := by
  simp only [Op.equalIn, Sem.run_bind, run_und hu, Result.andThen_ok]; rfl
theorem eqIn_sl2 {e : TypeId} (hu : P.underlying t = some (.slice e)) (b : Addr) (n m : Nat) : (Op.equalIn (d + 1) t (.slice (some b) n m) (.slice none 0 0)).run P w = .ok false w := by
  simp only [Op.equalIn, Sem.run_bind, run_und hu, Result.andThen_ok]; rfl
theorem eqIn_p1 {e : TypeId} (hu : P.underlying t = some (.pointer e)) (b : Addr) : (Op.equalIn (d + 1) t (.pointer none) (.pointer (some b))).run P w = .ok false w := by
  simp only [Op.equalIn, Sem.run_bind, run_und hu, Result.andThen_ok]; rfl
theorem eqIn_p2 {e : TypeId} (hu : P.underlying t = some (.pointer e)) (b : Addr) : (Op.equalIn (d + 1) t (.pointer (some b)) (.pointer none)).run P w = .ok false w := by
  simp only [Op.equalIn, Sem.run_bind, run_und hu, Result.andThen_ok]; rfl
theorem eqIn_f1 {ps rs : Array TypeId} {vr : Bool} (hu : P.underlying t = some (.func ps rs vr)) (f : Fn) (a b : Array Value) : (Op.equalIn (d + 1) t .nilFunc (.func f a b)).run P w = .ok false w := by
  simp only [Op.equalIn, Sem.run_bind, run_und hu, Result.andThen_ok]; rfl
theorem eqIn_f2 {ps rs : Array TypeId} {vr : Bool} (hu : P.underlying t = some (.func ps rs vr)) (f : Fn) (a b : Array Value) : (Op.equalIn (d + 1) t (.func f a b) .nilFunc).run P w = .ok false w := by
  simp only [Op.equalIn, Sem.run_bind, run_und hu, Result.andThen_ok]; rfl
theorem eqIn_i1 {ms : Array (String × TypeId)} (hu : P.underlying t = some (.interface ms)) (q : TypeId) (v : Value) : (Op.equalIn (d + 1) t .nilIface (.iface q v)).run P w = .ok false w := by
  simp only [Op.equalIn, Sem.run_bind, run_und hu, Result.andThen_ok]; rfl
theorem eqIn_i2 {ms : Array (String × TypeId)} (hu : P.underlying t = some (.interface ms)) (q : TypeId) (v : Value) : (Op.equalIn (d + 1) t (.iface q v) .nilIface).run P w = .ok false w := by
  simp only [Op.equalIn, Sem.run_bind, run_und hu, Result.andThen_ok]; rfl
end
theorem run_eqD {op : BinOp} (hop : op = .eql ∨ op = .neq) {x y : Operand} {a b : D} {u v : Value} {r : Bool} (ha : RV c a u) (hb : RV c b v) (h : eqD P t a b = some r) (w : World) :
    (do eqGuard op t x y u v; binOp op t u v : Sem Value).run P w = .ok (.bool (if op = .eql then r else !r)) w := by
  have finA : (Op.equalIn 10000 t u v).run P w = .ok r w → (eqGuard op t x y u v).run P w = .ok () w → (∀ k n, u ≠ .int k n) → (∀ k n, u ≠ .float k n) → (∀ k n m, u ≠ .complex k n m) → (∀ s, u ≠ .string s) →
      (do eqGuard op t x y u v; binOp op t u v : Sem Value).run P w = .ok (.bool (if op = .eql then r else !r)) w := by
    intro h1 h2 n1 n2 n3 n4
    rw [Sem.run_bind, h2, Result.andThen_ok]
    have h1' : (Op.equal t u v).run P w = .ok r w := h1
    have hb' : (binOp .eql t u v).run P w = .ok (.bool r) w ∧ (binOp .neq t u v).run P w = .ok (.bool !r) w := by
      cases u <;> first | exact absurd rfl (n1 _ _) | exact absurd rfl (n2 _ _) | exact absurd rfl (n3 _ _ _) | exact absurd rfl (n4 _) | (simp [binOp, h1'])
    rcases hop with rfl | rfl
    · simpa using hb'.1
    · simpa using hb'.2
  have fin : (∀ d, (Op.equalIn (d + 1) t u v).run P w = .ok r w) → (eqGuard op t x y u v).run P w = .ok () w → (∀ k n, u ≠ .int k n) → (∀ k n, u ≠ .float k n) → (∀ k n m, u ≠ .complex k n m) → (∀ s, u ≠ .string s) →
      (do eqGuard op t x y u v; binOp op t u v : Sem Value).run P w = .ok (.bool (if op = .eql then r else !r)) w := fun h => finA (h 9999)
  have guardFree : ∀ (u v : Value), (u ≠ .nilIface ∨ v ≠ .nilIface) → ((∀ xs, u ≠ .agg xs) ∨ (∀ xs, v ≠ .agg xs)) → (eqGuard op t x y u v).run P w = .ok () w := by
    intro u v h1 h2
    unfold eqGuard
    rcases hop with rfl | rfl <;> (simp only [Bool.not_true, Bool.false_eq_true, if_false]; split <;> simp_all)
  unfold eqD at h
  split at h
  · rename_i as bs
    split at h
    · rename_i ks hf
      unfold flatT at hf
      split at hf
      · cases hf
      · rename_i hg
        simp only [Bool.or_eq_true, bne_iff_ne, ne_eq, not_or, Decidable.not_not, Bool.not_eq_true] at hg
        obtain ⟨us, rfl, ru⟩ := ha.agg'
        obtain ⟨vs, rfl, rv⟩ := hb.agg'
        refine finA (equalIn_flat 20 t ks hf 10000 (by decide) as bs _ _ r w (.inl ⟨hg.2, us, rfl, ru⟩) (.inl ⟨hg.2, vs, rfl, rv⟩) h) ?_ (by simp) (by simp) (by simp) (by simp)
        exact run_eqGuard_agg w op t x y us vs hg.1
    · cases h
  · simp only [Option.map_eq_some_iff] at h
    obtain ⟨e, he, rfl⟩ := h
    obtain rfl := ha.snil; obtain rfl := hb.snil
    exact fin (fun d => eqIn_sl1 d w (elemT_und he) _ _ _) (guardFree _ _ (.inl (by simp)) (.inl (by simp))) (by simp) (by simp) (by simp) (by simp)
  · simp only [Option.map_eq_some_iff] at h
    obtain ⟨e, he, rfl⟩ := h
    obtain rfl := ha.snil
    obtain ⟨_, b, off, cap, a, rfl, _⟩ := hb.sl'
    exact fin (fun d => eqIn_sl1 d w (elemT_und he) _ _ _) (guardFree _ _ (.inl (by simp)) (.inl (by simp))) (by simp) (by simp) (by simp) (by simp)
  · simp only [Option.map_eq_some_iff] at h
    obtain ⟨e, he, rfl⟩ := h
    obtain rfl := hb.snil
    obtain ⟨_, b, off, cap, a, rfl, _⟩ := ha.sl'
    exact fin (fun d => eqIn_sl2 d w (elemT_und he) _ _ _) (guardFree _ _ (.inl (by simp)) (.inl (by simp))) (by simp) (by simp) (by simp) (by simp)
  · simp only [Option.map_eq_some_iff] at h
    obtain ⟨e, he, rfl⟩ := h
    obtain rfl := ha.snil
    obtain ⟨a, n, cap, rfl⟩ := hb.ownS
    exact fin (fun d => eqIn_sl1 d w (elemT_und he) _ _ _) (guardFree _ _ (.inl (by simp)) (.inl (by simp))) (by simp) (by simp) (by simp) (by simp)
  · simp only [Option.map_eq_some_iff] at h
    obtain ⟨e, he, rfl⟩ := h
    obtain rfl := hb.snil
    obtain ⟨a, n, cap, rfl⟩ := ha.ownS
    exact fin (fun d => eqIn_sl2 d w (elemT_und he) _ _ _) (guardFree _ _ (.inl (by simp)) (.inl (by simp))) (by simp) (by simp) (by simp) (by simp)
  all_goals
    first
    | (split at h
       · rename_i q hu
         simp only [Option.some.injEq] at h; subst h
         first
         | (obtain rfl := ha.scal rfl; first | (obtain ⟨a, rfl⟩ := hb.ptrS) | (obtain ⟨_, b, off, rfl, _⟩ := hb.fptr') | (obtain ⟨_, _, rfl, _⟩ := hb.clo') | (obtain ⟨_, rfl⟩ := hb.ifcS))
         | (obtain rfl := hb.scal rfl; first | (obtain ⟨a, rfl⟩ := ha.ptrS) | (obtain ⟨_, b, off, rfl, _⟩ := ha.fptr') | (obtain ⟨_, _, rfl, _⟩ := ha.clo') | (obtain ⟨_, rfl⟩ := ha.ifcS))
         exact fin (fun d => by first | exact eqIn_p1 d w hu _ | exact eqIn_p2 d w hu _ | exact eqIn_f1 d w hu _ _ _ | exact eqIn_f2 d w hu _ _ _ | exact eqIn_i1 d w hu _ _ | exact eqIn_i2 d w hu _ _) (guardFree _ _ (by simp) (.inl (by simp))) (by simp) (by simp) (by simp) (by simp)
       · cases h)
    | cases h
end
end Go.Proofs.YtlpadffinfijgaaW.Vm
