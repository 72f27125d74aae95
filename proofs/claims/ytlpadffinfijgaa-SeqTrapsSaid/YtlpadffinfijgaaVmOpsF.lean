/- Appending, copying, and slicing an array: the plain machine's are the model's. No conditions. -/
import Derived.Test.YtlpadffinfijgaaVmOpsE
set_option linter.unusedVariables false
set_option linter.unusedSimpArgs false
namespace Go.Proofs.YtlpadffinfijgaaW.Vm
open Go Go.RowKit

section
variable {P : Program} {c : Cx} {t : TypeId}

def grown (w : World) (need old : Nat) (e : TypeId) : Nat := need + (w.tape w.drawn (.appendCap need old e)) % (2 ^ 63 - need)

theorem run_append_in {ats : Array TypeId} {ty st xt e : TypeId} {d2 : TypeDesc} {sz : Nat} {sv xv : Value} (h0 : ats[0]? = some st) (h1 : ats[1]? = some xt) (hu : P.underlying st = some (.slice e)) (hx : P.underlying xt = some d2)
    (hni : (∃ e', d2 = .slice e') ∨ d2 = .string) (hs : szT P e = some sz) {base : Option Addr} {sLen sCap n : Nat} (hsv : sv = .slice base sLen sCap) {w : World} {vs : List Value}
    (hl : (Builtin.lenOf xv).run P w = .ok n w) (hf : (Builtin.firstCells sz n xv).run P w = .ok vs.toArray w) (hfit : sLen + n ≤ sCap) {w' : World}
    (hst : ∀ a, base = some a → (storeCells (a.add (sLen * sz)) vs).run P w = .ok () w') (hn : base = none → w' = w) :
    (Builtin.append_ ats ty #[sv, xv]).run P w = .ok (.slice base (sLen + n) sCap) w' := by
  subst hsv
  cases base with
  | none =>
    obtain rfl := hn rfl
    rcases hni with ⟨e', rfl⟩ | rfl <;> simp [Builtin.append_, h0, h1, run_und hu, run_und hx, run_sizeOf hs, hl, hf, hfit]
  | some a =>
    have hst := hst a rfl
    rcases hni with ⟨e', rfl⟩ | rfl <;> simp [Builtin.append_, h0, h1, run_und hu, run_und hx, run_sizeOf hs, hl, hf, hfit, hst]

theorem run_append_up {ats : Array TypeId} {ty st xt e : TypeId} {d2 : TypeDesc} {sz : Nat} {sv xv zv : Value} {i : TypeInfo} (h0 : ats[0]? = some st) (h1 : ats[1]? = some xt) (hu : P.underlying st = some (.slice e)) (hx : P.underlying xt = some d2)
    (hni : (∃ e', d2 = .slice e') ∨ d2 = .string) (hi : P.info? e = some i) (hsz : i.size = sz) (hz : i.zero = some zv) {base : Option Addr} {sLen sCap n : Nat} (hsv : sv = .slice base sLen sCap) {w : World} {vs os : List Value}
    (hl : (Builtin.lenOf xv).run P w = .ok n w) (hf : (Builtin.firstCells sz n xv).run P w.drew = .ok vs.toArray w.drew) (ho : (Builtin.firstCells sz sLen sv).run P w.drew = .ok os.toArray w.drew)
    (hfit : sCap < sLen + n) (hb : (sLen + n) * i.bytes ≤ 140737488355328) (h63 : sLen + n ≤ 140737488355328) :
    (Builtin.append_ ats ty #[sv, xv]).run P w = .ok (.slice (some ⟨w.heap.size, 0, none⟩) (sLen + n) (grown w (sLen + n) sCap e))
      (w.drew.alloc (.cells (os.toArray ++ vs.toArray ++ Builtin.zeroCells zv.cells (grown w (sLen + n) sCap e - (sLen + n))) e)) := by
  have hs : szT P e = some sz := by unfold szT; simp [hi, hsz]
  have g1 := growslice_fits (bytes := i.bytes) hfit hb
  have g2 : ¬ (sLen + n ≤ sCap) := by omega
  have g3 : ¬ (281474976710656 < Builtin.nextslicecap (sLen + n) sCap * i.bytes) := by omega
  have g4 : ¬ (9223372036854775807 < ((sLen : Int) + (n : Int))) := by omega
  subst hsv
  rcases hni with ⟨e', rfl⟩ | rfl <;>
    (simp [Builtin.append_, h0, h1, run_und hu, run_und hx, run_sizeOf hs, hl, g2, typeInfo, hi, g3, g4, Question.forced, hf, ho, zeroValue, hz, newRow, grown, Question.cut]
     congr 2
     apply Array.ext'
     simp)

theorem size_zeroCells' (z : Array Value) (n : Nat) : (Builtin.zeroCells z n).size = n * z.size := size_zeroCells z n
theorem lies_pad {xs : List D} {vs : List Value} {z : Nat} (h : LiesL c xs vs z) {cells : Array Value} (pre post : List Value) (hc : cells.toList = pre ++ vs ++ post) : Lies c xs cells pre.length z :=
  h.lies fun q v hq => by
    have hlt := (List.getElem?_eq_some_iff.1 hq).1
    rw [← Array.getElem?_toList, hc, List.append_assoc, List.getElem?_append_right (by omega), List.getElem?_append_left (by omega)]
    rw [show pre.length + q - pre.length = q by omega]; exact hq

theorem run_appendD {h h' : List Ob} (hr : HR c) (ag : Ag c h) {ats : Array TypeId} {ty : TypeId} {s x d : D} {sv xv : Value} (hs : RV c s sv) (hx : RV c x xv) (hfree : Free c h h') (ha : appendD P h ats s x = some (d, h')) :
    ∃ v w', (Builtin.append_ ats ty #[sv, xv]).run P c.w = .ok v w' ∧ ∃ c', c'.w = w' ∧ Step c h c' h' ∧ RV c' d v := by
  unfold appendD at ha
  split at ha
  · cases ha
  · rename_i st hst
    split at ha
    · cases ha
    · rename_i e he
      split at ha
      · rename_i sz by_ old g hsz hby hold hag
        rw [hsz, Option.getD_some] at hold
        split at ha
        · cases ha
        · rename_i new hnew
          unfold appNew at hnew
          -- what is appended
          obtain ⟨xt, d2, hxt, hxu, hni, hlen, vs, hvl, hvs, hfc⟩ : ∃ xt d2, ats[1]? = some xt ∧ P.underlying xt = some d2 ∧ ((∃ e', d2 = .slice e') ∨ d2 = .string) ∧ (∀ w, (Builtin.lenOf xv).run P w = .ok new.length w) ∧
              ∃ vs : List Value, vs.length = new.length * sz ∧ LiesL c new vs sz ∧ ∀ (w : World), (∀ b off u, c.w.cell? ⟨b, off, none⟩ = some u → w.cell? ⟨b, off, none⟩ = some u) →
                (Builtin.firstCells sz new.length xv).run P w = .ok vs.toArray w := by
            split at hnew
            · rename_i xt hxt
              split at hnew
              · rename_i e' hxu
                split at hnew
                · obtain ⟨⟨a, cap, e1, _, _⟩, vs, h1, h2, h3⟩ := src hr ag hx hnew
                  refine ⟨xt, _, hxt, hxu, .inl ⟨_, rfl⟩, fun w => by rw [e1]; simp [Builtin.lenOf], vs, h1, h2, fun w hw => ?_⟩
                  have := h3 new.length w (Nat.le_refl _) hw
                  rw [List.take_of_length_le (by omega)] at this
                  exact this
                · cases hnew
              · rename_i b hxu
                split at hnew
                · rename_i hc
                  simp only [Option.some.injEq] at hnew; subst hnew
                  obtain rfl := hx.str
                  refine ⟨xt, _, hxt, hxu, .inr rfl, fun w => by simp [Builtin.lenOf], b.data.toList.map fun (c : UInt8) => .int .u8 c.toNat, by simp [hc.1], fun i d hd => ?_, fun w hw => ?_⟩
                  · rw [List.getElem?_map] at hd
                    cases hq : b.data.toList[i]? with
                    | none => simp [hq] at hd
                    | some q =>
                      simp only [hq, Option.map_some, Option.some.injEq] at hd; subst hd
                      refine ⟨by simp [D.cells, hc.1], by simp, fun j y hy => ?_⟩
                      cases j with
                      | zero =>
                        simp only [D.cells, List.getElem?_cons_zero, Option.some.injEq] at hy; subst hy
                        refine ⟨rfl, .int .u8 q.toNat, ?_, .cl (.int _ _)⟩
                        rw [hc.1, List.getElem?_map]; simp [hq]
                      | succ j => simp [D.cells] at hy
                  · have hb : b.extract 0 b.data.toList.length = b := by
                      have : b.data.toList.length = b.size := by simp
                      rw [this]; exact ByteArray.extract_zero_size
                    simp only [Builtin.firstCells, Sem.run_pure, List.length_map, hb]
                    congr 1
                    apply Array.ext'
                    simp
                · cases hnew
              · cases hnew
            · cases hnew
          obtain ⟨⟨abase, scap, hsv, hcap, hnone⟩, os, hol, hos, hofc⟩ := src hr ag hs hold
          have hcd : ∀ (b off : Nat) u, c.w.cell? ⟨b, off, none⟩ = some u → c.w.drew.cell? ⟨b, off, none⟩ = some u := fun _ _ _ h => h
          split at ha
          · rename_i hcond
            obtain ⟨g1, g2, g3, g4⟩ := hcond
            have hbig : big = 140737488355328 := by decide
            rw [hbig] at g1
            have g1' : old.length + new.length ≤ 140737488355328 := by have := Nat.le_mul_of_pos_right (old.length + new.length) g2; omega
            obtain ⟨i, hi, hib⟩ := byT_info hby
            have hisz : i.size = sz := by unfold szT at hsz; simpa [hi] using hsz
            obtain ⟨z, zv, hzi, hzo, hfz⟩ : ∃ z zv, i.zero = some zv ∧ ofVal zv = some z ∧ fits P e z = true := by
              obtain ⟨z, hz, hf⟩ : ∃ z, zeroT P e = some z ∧ fits P e z = true := by
                unfold zeroOk at g4
                cases hz : zeroT P e with
                | none => rw [hz] at g4; cases g4
                | some z => rw [hz] at g4; exact ⟨z, rfl, g4⟩
              unfold zeroT at hz
              simp only [hi, Option.map_some] at hz
              cases hzz : i.zero with
              | none => simp [hzz] at hz
              | some zv => exact ⟨z, zv, rfl, by simpa [hzz] using hz, hf⟩
            have hzsize : zv.cells.size = sz := by
              obtain ⟨g', s', _, hs', f1, f2, f3, f4, f5⟩ := fits_cells hfz
              rw [hsz] at hs'; cases hs'
              have hund : z ≠ .und := by rintro rfl; cases g' <;> simp [D.one] at f4 f5
              have hcv := cells_rv (RV.cl (c := c) (ofVal_rc hzo)) f2 hund
              rw [← Array.length_toList, ← hcv.length, f1]
            split at ha
            · -- nothing is appended
              rename_i hn0
              simp only [Option.some.injEq, Prod.mk.injEq] at ha
              obtain ⟨rfl, rfl⟩ := ha
              have hvs0 : vs = [] := List.eq_nil_of_length_eq_zero (by rw [hvl, hn0]; simp)
              refine ⟨sv, c.w, ?_, c, rfl, .refl hr ag, hs⟩
              have hrun := run_append_in (P := P) (ty := ty) hst hxt (elemT_und he) hxu hni hsz hsv (hlen c.w) (hfc c.w fun _ _ _ h => h) (by omega) (w' := c.w) (fun a _ => by rw [hvs0]; simp [storeCells]) (fun _ => rfl)
              rw [hrun, hsv, hn0]; rfl
            · rename_i hn0
              have hup := fun (hfit : scap < old.length + new.length) => run_append_up (P := P) (ty := ty) hst hxt (elemT_und he) hxu hni hi hisz hzi hsv (hlen c.w) (hfc c.w.drew hcd)
                (by have := hofc old.length c.w.drew (Nat.le_refl _) hcd; rw [List.take_of_length_le (by omega)] at this; exact this) hfit (by rw [hib]; exact g1) g1'
              have hgr : old.length + new.length ≤ grown c.w (old.length + new.length) scap e := by unfold grown; omega
              have hcells : (os.toArray ++ vs.toArray ++ Builtin.zeroCells zv.cells (grown c.w (old.length + new.length) scap e - (old.length + new.length))).size = grown c.w (old.length + new.length) scap e * sz := by
                rw [Array.size_append, Array.size_append, size_zeroCells, hzsize]
                simp only [List.size_toArray, hol, hvl]
                rw [← Nat.add_mul, ← Nat.add_mul]; congr 1; omega
              have hlies : Lies c (old ++ new) (os.toArray ++ vs.toArray ++ Builtin.zeroCells zv.cells (grown c.w (old.length + new.length) scap e - (old.length + new.length))) 0 sz :=
                lies_pad (hos.append hol hvs) [] (Builtin.zeroCells zv.cells (grown c.w (old.length + new.length) scap e - (old.length + new.length))).toList (by simp)
              have fresh : ∀ (hfit : scap < old.length + new.length), Free c h (newOb h sz (old ++ new)) → ∃ v w', (Builtin.append_ ats ty #[sv, xv]).run P c.w = .ok v w' ∧ ∃ c', c'.w = w' ∧ Step c h c' (newOb h sz (old ++ new)) ∧
                  RV c' (.own sz h.length 0 0 (old.length + new.length)) v := by
                intro hfit hfree
                obtain ⟨c', e1, e2, e3, e4⟩ := alloc_step hr ag hfree (cells := os.toArray ++ vs.toArray ++ Builtin.zeroCells zv.cells (grown c.w (old.length + new.length) scap e - (old.length + new.length))) (e := e) g3
                  (by rw [hcells, List.length_append]; exact Nat.mul_le_mul_right _ hgr) hlies (.inr rfl)
                refine ⟨_, _, hup hfit, c', e1, e2, .own e4 rfl rfl e3 (by simp) hgr ?_ (fun _ => by simp)⟩
                rw [e1]
                have : bsz (c.w.drew.alloc (Go.Obj.cells (os.toArray ++ vs.toArray ++ Builtin.zeroCells zv.cells (grown c.w (old.length + new.length) scap e - (old.length + new.length))) e)) c.w.heap.size = _ := bsz_alloc c.w.drew _ e
                rw [this, hcells]; simp
              split at ha
              · -- nil
                simp only [Option.some.injEq, Prod.mk.injEq] at ha
                obtain ⟨rfl, rfl⟩ := ha
                have hold0 : old = [] := by simpa [elsZ] using hold.symm
                subst hold0
                have hsc : scap = 0 := by
                  have := hs.snil
                  rw [this] at hsv
                  simp only [Value.slice.injEq] at hsv
                  exact hsv.2.2.symm
                have := fresh (by simp; omega) (by simpa using hfree)
                simpa using this
              · -- tight
                rename_i z' xs _
                simp only [Option.some.injEq, Prod.mk.injEq] at ha
                obtain ⟨rfl, rfl⟩ := ha
                have hold' : old = xs := by
                  simp only [elsZ] at hold
                  split at hold
                  · simpa using hold.symm
                  · cases hold
                subst hold'
                obtain ⟨_, b, off, cap, a, hv, _, _, ht, _⟩ := hs.sl'
                rw [hv] at hsv
                simp only [Value.slice.injEq] at hsv
                have hsc : scap = old.length := by rw [← hsv.2.2]; exact ht rfl
                exact fresh (by omega) hfree
              · -- an object
                rename_i z' id ver off len _
                split at ha
                · rename_i o ho
                  split at ha
                  · rename_i hfrz
                    simp only [Option.some.injEq, Prod.mk.injEq] at ha
                    obtain ⟨rfl, rfl⟩ := ha
                    simp only [elsZ] at hold
                    split at hold
                    · rename_i hz'
                      subst hz'
                      simp only [elsOf, ho] at hold
                      split at hold
                      · rename_i hc
                        simp only [Option.some.injEq] at hold
                        have hid : id < h.length := (List.getElem?_eq_some_iff.1 ho).1
                        have hlen' : old.length = len := by rw [← hold]; simp; omega
                        obtain ⟨hz2, hl2, b, base, cap, a, hm, hv, hcap2, hb2, ha2⟩ := hs.own' ((ag id hid).trans ho) hc.1
                        rw [hv] at hsv
                        simp only [Value.slice.injEq] at hsv
                        obtain ⟨ea, _, ec⟩ := hsv
                        subst ec
                        obtain ⟨o2, cells, el, k1, k2, k3, k4, k5⟩ := hr.ob _ _ _ hm
                        rw [ag id hid, ho] at k1
                        cases k1
                        have hbs : bsz c.w b = cells.size := by unfold bsz; rw [k2]
                        have hbl := hr.lt hm
                        by_cases hfit : old.length + new.length ≤ cap
                        · -- there is room
                          have hcz : cap ≠ 0 := by omega
                          obtain rfl := ha2 hcz
                          have hoff : base + off * o.esz + len * z' + vs.length ≤ cells.size := by
                            rw [hvl, hz2, Nat.add_assoc, Nat.add_assoc, ← Nat.add_mul, ← Nat.add_mul, ← hbs]
                            exact Nat.le_trans (Nat.add_le_add_left (Nat.mul_le_mul_right _ (by omega)) _) hb2
                          have hst2 := run_storeCells_at P b (base + off * o.esz + len * z') el vs 0 cells c.w k2 (by omega) (fun v hv => by
                            obtain ⟨q, hq⟩ := List.getElem?_of_mem hv
                            have hql : q < new.length * z' := by have := (List.getElem?_eq_some_iff.1 hq).1; omega
                            have hqi : q / z' < new.length := Nat.div_lt_of_lt_mul (by rw [Nat.mul_comm]; exact hql)
                            obtain ⟨m1, m2, m3⟩ := hvs (q / z') _ (List.getElem?_eq_getElem hqi)
                            have hq2 : q % z' < (new[q / z']).cells.length := by rw [m1]; exact Nat.mod_lt q g3
                            obtain ⟨y, hy⟩ : ∃ y, (new[q / z']).cells[q % z']? = some y := ⟨_, List.getElem?_eq_getElem hq2⟩
                            obtain ⟨m4, u, m5, m6⟩ := m3 _ y hy
                            rw [Nat.mul_comm, Nat.div_add_mod, hq] at m5
                            cases m5
                            exact m6.one' m4)
                          simp only [Nat.add_zero] at hst2
                          have hrun := run_append_in (P := P) (ty := ty) hst hxt (elemT_und he) hxu hni hsz (sLen := old.length) (sCap := cap) (base := some ⟨b, base + off * o.esz, none⟩) (sv := sv) (by rw [hv, hlen']) (hlen c.w) (hfc c.w fun _ _ _ h => h) hfit
                            (w' := c.w.setRow b (cells.toList.take (base + off * o.esz + len * z') ++ vs ++ cells.toList.drop (base + off * o.esz + len * z' + vs.length)).toArray)
                            (fun a ha => by simp only [Option.some.injEq] at ha; subst ha; rw [add_addr, hlen']; exact hst2) (by simp)
                          have hrow := setRow_heap c.w b cells (cells.toList.take (base + off * o.esz + len * z') ++ vs ++ cells.toList.drop (base + off * o.esz + len * z' + vs.length)).toArray el (0, 0) k2
                          have hsize : (cells.toList.take (base + off * o.esz + len * z') ++ vs ++ cells.toList.drop (base + off * o.esz + len * z' + vs.length)).toArray.size = cells.size := by
                            simp only [List.size_toArray, List.length_append, List.length_take, List.length_drop, Array.length_toList]; omega
                          have hlow : ∀ q, q < base + off * o.esz + len * z' → (cells.toList.take (base + off * o.esz + len * z') ++ vs ++ cells.toList.drop (base + off * o.esz + len * z' + vs.length)).toArray[q]? = cells[q]? := by
                            intro q hq
                            simp only [List.getElem?_toArray, List.append_assoc]
                            rw [List.getElem?_append_left (by simp; omega), List.getElem?_take, if_pos hq]; simp
                          obtain ⟨c', e1, e2, e3, e4⟩ := move_step (o' := { o with ver := ver + 1, els := old ++ new, frz := o.frz - off }) (base' := base + off * o.esz) hr ag hm ho
                            (w' := c.w.setRow b (cells.toList.take (base + off * o.esz + len * z') ++ vs ++ cells.toList.drop (base + off * o.esz + len * z' + vs.length)).toArray)
                            (by simp) rfl rfl rfl (fun k _ hk => setRow_other _ _ _ _ hk) (by unfold bsz; rw [hrow, k2]; exact hsize)
                            (fun q u hq1 hq2 => by
                              rw [cell_at hrow, hlow q (by have := Nat.mul_le_mul_right o.esz hfrz; rw [Nat.add_mul] at this; rw [hz2]; omega), ← cell_at k2]; exact hq1)
                            (.inl ⟨rfl, by
                              show base + o.frz * o.esz ≤ base + off * o.esz + (o.frz - off) * o.esz
                              rw [Nat.add_assoc, ← Nat.add_mul]; exact Nat.add_le_add_left (Nat.mul_le_mul_right _ (by omega)) _⟩) (.inl (by show o.ver < ver + 1; omega)) hrow k3
                            (by
                              show base + off * o.esz + (old ++ new).length * o.esz ≤ _
                              have hoff2 := hoff
                              rw [← hz2] at hoff2
                              rw [hsize, List.length_append, hlen', ← hz2, Nat.add_mul, ← hvl]; omega)
                            (by
                              show Lies c (old ++ new) _ (base + off * o.esz) o.esz
                              have hpre : (cells.toList.take (base + off * o.esz)).length = base + off * o.esz := by simp; omega
                              have hos2 : os = (cells.toList.drop (base + off * o.esz)).take (len * z') := by
                                have hr1 := hofc old.length c.w (Nat.le_refl _) fun _ _ _ h => h
                                rw [List.take_of_length_le (by omega)] at hr1
                                have hr2 := run_loadCells_list (P := P) c.w ⟨b, base + off * o.esz, none⟩ ((cells.toList.drop (base + off * o.esz)).take (len * z')) (fun j v hj => by
                                  rw [add_addr, cell_at k2]
                                  rw [List.getElem?_take] at hj
                                  split at hj
                                  · rw [List.getElem?_drop] at hj; simpa using hj
                                  · cases hj)
                                rw [List.length_take, List.length_drop, Array.length_toList, Nat.min_eq_left (by omega)] at hr2
                                rw [hv] at hr1
                                simp only [Builtin.firstCells, hlen'] at hr1
                                rw [hr2] at hr1
                                have e := (Result.ok.inj hr1).1
                                have := congrArg Array.toList e
                                simpa using this.symm
                              have hp := lies_pad (cells := (cells.toList.take (base + off * o.esz + len * z') ++ vs ++ cells.toList.drop (base + off * o.esz + len * z' + vs.length)).toArray) (hos.append hol hvs)
                                (cells.toList.take (base + off * o.esz)) (cells.toList.drop (base + off * o.esz + len * z' + vs.length)) (by
                                  rw [hos2, List.take_add]; simp)
                              rw [hpre] at hp
                              have ez : o.esz = z' := hz2.symm
                              rw [ez] at hp ⊢
                              exact hp)
                          refine ⟨_, _, hrun, c', e1, e2, ?_⟩
                          rw [hlen'] at hfit ⊢
                          refine .own e4 rfl hz2 e3 (by show 0 + (len + new.length) ≤ (old ++ new).length; rw [List.length_append, hlen']; omega) hfit ?_ (fun _ => by simp)
                          rw [e1]
                          have : bsz (c.w.setRow b (cells.toList.take (base + off * o.esz + len * z') ++ vs ++ cells.toList.drop (base + off * o.esz + len * z' + vs.length)).toArray) b = cells.size := by unfold bsz; rw [hrow]; exact hsize
                          rw [this, ← hbs]
                          show base + off * o.esz + (0 + cap) * o.esz ≤ _
                          rw [Nat.zero_add, Nat.add_assoc, ← Nat.add_mul]; exact hb2
                        · -- there is none
                          have hup := hup (by omega)
                          obtain ⟨c', e1, e2, e3, e4⟩ := move_step (o' := { o with ver := ver + 1, els := old ++ new, frz := o.frz - off }) (base' := 0) (b' := c.w.heap.size) hr ag hm ho
                            (w' := c.w.drew.alloc (.cells (os.toArray ++ vs.toArray ++ Builtin.zeroCells zv.cells (grown c.w (old.length + new.length) cap e - (old.length + new.length))) e))
                            (by simp) rfl rfl rfl (fun k hk _ => Below.heap_alloc c.w.drew _ k hk) (bsz_of (Below.heap_alloc c.w.drew _ b hbl))
                            (fun q u hq1 _ => by rw [cell_of_heap (Below.heap_alloc c.w.drew _ b hbl)]; exact hq1) (.inr (Nat.le_refl _)) (.inl (by show o.ver < ver + 1; omega))
                            (cells := os.toArray ++ vs.toArray ++ Builtin.zeroCells zv.cells (grown c.w (old.length + new.length) cap e - (old.length + new.length))) (e := e)
                            (by show (c.w.heap.push _)[_]? = _; simp) k3
                            (by
                              show 0 + (old ++ new).length * o.esz ≤ _
                              rw [hcells, List.length_append, ← hz2, Nat.zero_add]; exact Nat.mul_le_mul_right _ hgr) (by rw [← hz2]; exact hlies)
                          refine ⟨_, _, hup, c', e1, e2, ?_⟩
                          rw [hlen'] at hgr ⊢
                          refine .own e4 rfl hz2 e3 (by show 0 + (len + new.length) ≤ (old ++ new).length; rw [List.length_append, hlen']; omega) hgr ?_ (fun _ => by simp)
                          rw [e1]
                          have : bsz (c.w.drew.alloc (Go.Obj.cells (os.toArray ++ vs.toArray ++ Builtin.zeroCells zv.cells (grown c.w (old.length + new.length) cap e - (old.length + new.length))) e)) c.w.heap.size = _ := bsz_alloc c.w.drew _ e
                          rw [this, hcells]; simp [hz2, hlen']
                      · cases hold
                    · cases hold
                  · cases ha
                · cases ha
              · cases ha
          · cases ha
      · cases ha

theorem lenS_val {x : D} {v : Value} {n : Nat} (hx : RV c x v) (h : lenS x = some n) : ∃ a cap, v = .slice a n cap := by
  unfold lenS at h
  split at h
  · simp only [Option.some.injEq] at h; subst h
    exact ⟨_, _, hx.snil⟩
  · simp only [Option.some.injEq] at h; subst h
    obtain ⟨_, b, off, cap, a, hv, _⟩ := hx.sl'
    exact ⟨_, _, hv⟩
  · simp only [Option.some.injEq] at h; subst h
    cases hx with
    | cl h => cases h
    | owns => exact ⟨_, _, rfl⟩
    | own => exact ⟨_, _, rfl⟩
  · cases h

theorem run_copyD {h h' : List Ob} (hr : HR c) (ag : Ag c h) {ats : Array TypeId} {ty : TypeId} {s x d : D} {sv xv : Value} (hs : RV c s sv) (hx : RV c x xv) (ha : copyD P h ats s x = some (d, h')) :
    ∃ v w', (Builtin.copy_ ats ty #[sv, xv]).run P c.w = .ok v w' ∧ ∃ c', c'.w = w' ∧ Step c h c' h' ∧ RV c' d v := by
  unfold copyD at ha
  split at ha
  · cases ha
  · rename_i st hst
    split at ha
    · cases ha
    · rename_i e he
      split at ha
      · rename_i sz dl xs hsz hdl hxs
        rw [hsz, Option.getD_some] at hxs
        obtain ⟨⟨xa, xcap, hxv, _, _⟩, us, hul, hus, hfc⟩ := src hr ag hx hxs
        obtain ⟨da, dcap, hdv⟩ := lenS_val hs hdl
        have hrun : ∀ w', (match da with | some a => (storeCells a (us.take (Nat.min xs.length dl * sz))).run P c.w = .ok () w' | none => w' = c.w) →
            (Builtin.copy_ ats ty #[sv, xv]).run P c.w = .ok (.int .i64 (Nat.min xs.length dl)) w' := by
          intro w' hw'
          have h3 := hfc (Nat.min xs.length dl) c.w (Nat.min_le_left _ _) fun _ _ _ h => h
          rw [hxv] at h3
          rw [hdv, hxv]
          cases da with
          | none =>
            obtain rfl := hw'
            simp [Builtin.copy_, hst, run_und (elemT_und he), run_sizeOf hsz, Builtin.lenOf, goInt]
            rw [h3]; rfl
          | some a =>
            simp only at hw'
            simp [Builtin.copy_, hst, run_und (elemT_und he), run_sizeOf hsz, Builtin.lenOf, goInt]
            rw [h3]; simp [hw']
        simp only at ha
        split at ha
        · rename_i hn
          simp only [Option.some.injEq, Prod.mk.injEq] at ha
          obtain ⟨rfl, rfl⟩ := ha
          refine ⟨_, c.w, hrun c.w ?_, c, rfl, .refl hr ag, ?_⟩
          · rw [hn]; cases da <;> simp [storeCells]
          · rw [hn]; exact .cl (.int _ _)
        · rename_i hn
          cases s with
          | own z id ver off len =>
            simp only at ha
            split at ha
            · rename_i o ho
              split at ha
              · rename_i hc
                obtain ⟨c1, c2, c3, c4, c5⟩ := hc
                simp only [Option.some.injEq, Prod.mk.injEq] at ha
                obtain ⟨rfl, rfl⟩ := ha
                simp only [lenS, Option.some.injEq] at hdl
                subst hdl c2
                have hid : id < h.length := (List.getElem?_eq_some_iff.1 ho).1
                obtain ⟨hz2, hl2, b, base, cap, a, hm, hv, hcap2, hb2, ha2⟩ := hs.own' ((ag id hid).trans ho) c1
                rw [hv] at hdv
                simp only [Value.slice.injEq] at hdv
                obtain ⟨ea, _, ec⟩ := hdv
                subst ea
                obtain ⟨o2, cells, el, k1, k2, k3, k4, k5⟩ := hr.ob _ _ _ hm
                rw [ag id hid, ho] at k1
                cases k1
                have hnl : Nat.min xs.length len ≤ len := Nat.min_le_right _ _
                have hnx : Nat.min xs.length len ≤ xs.length := Nat.min_le_left _ _
                obtain rfl := ha2 (by omega)
                have hvl : (us.take (Nat.min xs.length len * z)).length = Nat.min xs.length len * z := by
                  rw [List.length_take, hul, Nat.min_eq_left (Nat.mul_le_mul_right _ hnx)]
                have hlies := hus.take (Nat.min xs.length len)
                generalize hvs : us.take (Nat.min xs.length len * z) = vs at *
                generalize hnn : Nat.min xs.length len = n at *
                have hoff : base + off * o.esz + vs.length ≤ cells.size := by
                  rw [hvl, hz2, Nat.add_assoc, ← Nat.add_mul]
                  exact Nat.le_trans (Nat.add_le_add_left (Nat.mul_le_mul_right _ (by omega)) _) k4
                have hz0 : 0 < z := by omega
                have hones : ∀ v ∈ vs, v.oneCell' = true := fun v hv => by
                  obtain ⟨q, hq⟩ := List.getElem?_of_mem hv
                  have hql : q < n * z := by have := (List.getElem?_eq_some_iff.1 hq).1; omega
                  have hqi : q / z < (xs.take n).length := by rw [List.length_take, Nat.min_eq_left hnx]; exact Nat.div_lt_of_lt_mul (by rw [Nat.mul_comm]; exact hql)
                  obtain ⟨m1, m2, m3⟩ := hlies (q / z) _ (List.getElem?_eq_getElem hqi)
                  have hq2 : q % z < ((xs.take n)[q / z]).cells.length := by rw [m1]; exact Nat.mod_lt q hz0
                  obtain ⟨m4, u, m5, m6⟩ := m3 _ _ (List.getElem?_eq_getElem hq2)
                  rw [Nat.mul_comm, Nat.div_add_mod, hq] at m5
                  cases m5
                  exact m6.one' m4
                have hst2 := run_storeCells_at P b (base + off * o.esz) el vs 0 cells c.w k2 (by omega) hones
                simp only [Nat.add_zero] at hst2
                have hrow := setRow_heap c.w b cells (cells.toList.take (base + off * o.esz) ++ vs ++ cells.toList.drop (base + off * o.esz + vs.length)).toArray el (0, 0) k2
                have hsize : (cells.toList.take (base + off * o.esz) ++ vs ++ cells.toList.drop (base + off * o.esz + vs.length)).toArray.size = cells.size := by
                  simp only [List.size_toArray, List.length_append, List.length_take, List.length_drop, Array.length_toList]; omega
                have hcur : ∀ q, q < base + off * o.esz ∨ base + off * o.esz + vs.length ≤ q → (cells.toList.take (base + off * o.esz) ++ vs ++ cells.toList.drop (base + off * o.esz + vs.length)).toArray[q]? = cells[q]? := by
                  intro q hq
                  simp only [List.getElem?_toArray, List.getElem?_append, List.length_append, List.length_take, Array.length_toList, List.getElem?_take, List.getElem?_drop]
                  rw [Nat.min_eq_left (by omega)]
                  rcases hq with hq | hq
                  · rw [if_pos (by omega), if_pos hq, if_pos hq]; simp
                  · rw [if_neg (by omega), show base + off * o.esz + vs.length + (q - (base + off * o.esz + vs.length)) = q by omega]; simp
                have hin : ∀ q, q < vs.length → (cells.toList.take (base + off * o.esz) ++ vs ++ cells.toList.drop (base + off * o.esz + vs.length)).toArray[base + off * o.esz + q]? = vs[q]? := by
                  intro q hq
                  simp only [List.getElem?_toArray, List.getElem?_append, List.length_append, List.length_take, Array.length_toList]
                  rw [Nat.min_eq_left (by omega), if_pos (by omega), if_neg (by omega), show base + off * o.esz + q - (base + off * o.esz) = q by omega]
                have hlen3 : (o.els.take off ++ xs.take n ++ o.els.drop (off + n)).length = o.els.length := by
                  simp only [List.length_append, List.length_take, List.length_drop]; omega
                obtain ⟨c', e1, e2, _⟩ := move_step (o' := { o with els := o.els.take off ++ xs.take n ++ o.els.drop (off + n) }) hr ag hm ho
                  (w' := c.w.setRow b (cells.toList.take (base + off * o.esz) ++ vs ++ cells.toList.drop (base + off * o.esz + vs.length)).toArray)
                  (by simp) rfl rfl rfl (fun k _ hk => setRow_other _ _ _ _ hk) (by unfold bsz; rw [hrow, k2]; exact hsize)
                  (fun q u hq1 hq2 => by
                    rw [cell_at hrow, hcur q (.inl (by have := Nat.mul_le_mul_right o.esz c3; omega)), ← cell_at k2]; exact hq1)
                  (.inl ⟨rfl, Nat.le_refl _⟩) (.inr ⟨rfl, rfl, hlen3, rfl, rfl⟩) hrow k3 (by show base + (o.els.take off ++ xs.take n ++ o.els.drop (off + n)).length * o.esz ≤ _; rw [hsize, hlen3]; exact k4)
                  (fun k y hy => by
                    simp only at hy ⊢
                    rw [List.getElem?_append] at hy
                    simp only [List.length_append, List.length_take] at hy
                    rw [Nat.min_eq_left (by omega), Nat.min_eq_left hnx] at hy
                    split at hy
                    · rename_i hk
                      rw [List.getElem?_append, List.length_take, Nat.min_eq_left (by omega)] at hy
                      split at hy
                      · rename_i hk2
                        rw [List.getElem?_take, if_pos hk2] at hy
                        obtain ⟨n1, n2, n3⟩ := k5 k y hy
                        refine ⟨n1, n2, fun q yy hyy => ?_⟩
                        obtain ⟨n4, n5, n6, n7⟩ := n3 q yy hyy
                        have hq : q < o.esz := by have := (List.getElem?_eq_some_iff.1 hyy).1; omega
                        have : k * o.esz + o.esz ≤ off * o.esz := by rw [← Nat.succ_mul]; exact Nat.mul_le_mul_right _ hk2
                        exact ⟨n4, n5, by rw [hcur _ (.inl (by omega)), ← cell_at k2]; exact n6, n7⟩
                      · rename_i hk2
                        obtain ⟨n1, n2, n3⟩ := hlies _ y hy
                        refine ⟨by rw [n1, hz2], n2, fun q yy hyy => ?_⟩
                        obtain ⟨n4, n5, n6, n7⟩ := n3 q yy hyy
                        refine ⟨n4, n5, ?_, n7⟩
                        have hlt := (List.getElem?_eq_some_iff.1 n6).1
                        have := hin _ hlt
                        rw [n6] at this
                        rw [← this, ← hz2]
                        congr 1
                        have e : k = off + (k - off) := by omega
                        rw [show k * z = off * z + (k - off) * z by rw [← Nat.add_mul]; congr 1]
                        omega
                    · rename_i hk
                      rw [List.getElem?_drop, show off + n + (k - (off + n)) = k by omega] at hy
                      obtain ⟨n1, n2, n3⟩ := k5 k y hy
                      refine ⟨n1, n2, fun q yy hyy => ?_⟩
                      obtain ⟨n4, n5, n6, n7⟩ := n3 q yy hyy
                      have : (off + n) * o.esz ≤ k * o.esz := Nat.mul_le_mul_right _ (by omega)
                      rw [Nat.add_mul] at this
                      exact ⟨n4, n5, by rw [hcur _ (.inr (by rw [hvl, hz2]; omega)), ← cell_at k2]; exact n6, n7⟩)
                exact ⟨_, _, hrun _ hst2, c', e1, e2, .cl (.int _ _)⟩
              · cases ha
            · cases ha
          | _ => simp only [reduceCtorEq] at ha
      · cases ha

/-- slicing a whole array -/
theorem run_sliceArr {h h' : List Ob} (hr : HR c) (ag : Ag c h) {n : Nat} {e : TypeId} (hu : P.underlying t = some (.array n e)) {x d : D} {v : Value} {lo hi mx : Option D} {lv hv mv : Option Value}
    (hx : RV c x v) (r1 : ORel c lo lv) (r2 : ORel c hi hv) (r3 : ORel c mx mv) (hs : sliceD P h t x lo hi mx = some (d, h')) :
    ∃ u, (Instr.sliceAt t v lv hv mv).run P c.w = .ok u c.w ∧ ∃ c', c'.w = c.w ∧ Step c h c' h' ∧ RV c' d u := by
  unfold sliceD at hs
  rw [hu] at hs
  split at hs
  · rename_i h1; cases h1
  · rename_i h1; cases h1
  · rename_i h1; cases h1
  · rename_i h1; cases h1
  · rename_i n' e' id ver h1
    simp only [Option.some.injEq, TypeDesc.array.injEq] at h1
    obtain ⟨rfl, rfl⟩ := h1
    split at hs
    · rename_i s g o hsz hag ho
      split at hs
      · rename_i cs hels
        split at hs
        · rename_i hc
          obtain ⟨c1, c2, c3, c4, c5⟩ := hc
          simp only [Option.some.injEq, Prod.mk.injEq] at hs
          obtain ⟨rfl, rfl⟩ := hs
          have hid : id < h.length := (List.getElem?_eq_some_iff.1 ho).1
          obtain ⟨b, base, hm, rfl⟩ := hx.ptr' ((ag id hid).trans ho) c1
          obtain ⟨o2, cells, el, k1, k2, k3, k4, k5⟩ := hr.ob _ _ _ hm
          rw [ag id hid, ho] at k1
          cases k1
          obtain ⟨l1, l2, l3⟩ := k5 0 (.agg cs) (by rw [hels]; rfl)
          simp only [D.cells, Nat.zero_mul, Nat.add_zero] at l1 l3
          have hsz1 : o.els.length * o.esz = n * s := by rw [hels, ← l1, c3]; simp
          have hlv : lv = none := by cases lv <;> simp_all [ORel]
          have hhv : hv = none := by cases hv <;> simp_all [ORel]
          have hmv : mv = none := by cases mv <;> simp_all [ORel]
          subst hlv hhv hmv
          refine ⟨.slice (some ⟨b, base, none⟩) n n, ?_, ?_⟩
          · have : ∀ (a : Addr), a.add 0 = a := fun a => by simp [Addr.add]
            simp [Instr.sliceAt, run_und hu, Instr.sureAddr, Instr.sliceBounds, run_sizeOf hsz, this]
          · obtain ⟨c', e1, e2, e3, e4⟩ := move_step (o' := { o with ver := ver + 1, esz := s, els := (List.range n).map fun q => if g then .agg ((cs.drop (q * s)).take s) else cs.getD q .und }) (base' := base) (w' := c.w) hr ag hm ho
              (Nat.le_refl _) rfl rfl rfl (fun _ _ _ => rfl) rfl (fun _ _ h _ => h) (.inl ⟨rfl, by rw [c2]; simp⟩) (.inl (by show o.ver < ver + 1; omega)) k2 c4
              (by show base + ((List.range n).map _).length * s ≤ _; rw [List.length_map, List.length_range]; omega)
              (fun q y hy => by
                simp only at hy ⊢
                rw [List.getElem?_map] at hy
                by_cases hq : q < n
                · rw [List.getElem?_range hq] at hy
                  simp only [Option.map_some, Option.some.injEq] at hy; subst hy
                  have hqs : q * s + s ≤ n * s := by rw [← Nat.succ_mul]; exact Nat.mul_le_mul_right _ hq
                  cases g with
                  | true =>
                    simp only [if_true]
                    refine ⟨by simp [D.cells]; omega, by simp, fun j yy hyy => ?_⟩
                    simp only [D.cells, List.getElem?_take, List.getElem?_drop] at hyy
                    split at hyy
                    · obtain ⟨n1, u, n2, n3⟩ := l3 _ yy hyy
                      exact ⟨n1, u, by rw [← cell_at k2, Nat.add_assoc]; exact n2, n3⟩
                    · cases hyy
                  | false =>
                    simp only [Bool.false_eq_true, if_false]
                    have hs1 : s = 1 := c5.resolve_left (by simp)
                    subst hs1
                    obtain ⟨yy, hyy⟩ : ∃ yy, cs[q]? = some yy := ⟨_, List.getElem?_eq_getElem (show q < cs.length by omega)⟩
                    obtain ⟨n1, u, n2, n3⟩ := l3 _ yy hyy
                    have hg : cs.getD q .und = yy := by simp [List.getD, hyy]
                    rw [hg]
                    have hcc : yy.cells = [yy] := by cases yy <;> first | rfl | (simp [D.one] at n1)
                    refine ⟨by rw [hcc]; rfl, by rintro ds rfl; simp [D.one] at n1, fun j y2 hy2 => ?_⟩
                    rw [hcc] at hy2
                    cases j with
                    | zero =>
                      simp only [List.getElem?_cons_zero, Option.some.injEq] at hy2; subst hy2
                      exact ⟨n1, u, by rw [← cell_at k2]; simpa using n2, n3⟩
                    | succ j => simp at hy2
                · rw [List.getElem?_eq_none (by simpa using hq)] at hy; simp at hy)
            refine ⟨c', e1, e2, .own e4 rfl rfl e3 (by simp) (Nat.le_refl _) ?_ (fun _ => by simp)⟩
            rw [e1]
            have : bsz c.w b = cells.size := by unfold bsz; rw [k2]
            rw [this]
            show base + (0 + n) * s ≤ _
            rw [Nat.zero_add]; omega
        · cases hs
      · cases hs
    · cases hs
  · cases hs
end
end Go.Proofs.YtlpadffinfijgaaW.Vm
