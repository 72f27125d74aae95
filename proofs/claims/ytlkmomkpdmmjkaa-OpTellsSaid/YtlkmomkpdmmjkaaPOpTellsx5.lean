-- Written by a program of this session (a changed copy of the kit's print).
import Derived.Test.YtlkmomkpdmmjkaaPOpTellsx0
import Derived.Test.YtlkmomkpdmmjkaaPOpTellsx3
import Derived.Test.YtlkmomkpdmmjkaaPOpTellsx4
namespace Go.Proofs.Ytlkmomkpdmmjkaa.POpTells
open Go.RowKit Go.Proofs.YtlkmomkpdmmjkaaW.PrintWords Go.Proofs.YtlkmomkpdmmjkaaW.PrintLast Go.Proofs.YtlkmomkpdmmjkaaW.PrintMore
attribute [local go_sem] max2_int min2_int max_two min_two max_three min_three max_four min_four   -- for this text's walks alone
set_option linter.unusedVariables false
set_option linter.unusedSimpArgs false

/-! ### transhumanceref06_May: function 34 -/
mutual
def transhumanceref06_May.j0 : Nat → Int → Bool → Int → Int → Int → Option (Bool)
  | 0, _, _, _, _, _ => none
  | k + 1, x3, x42, x143000, x143001, x143002 => if x42 = true then (some false) else (if x143000 = 16 then (transhumanceref06_May.j1 k x3 (decide (x143001 < 16)) x143000 x143001 x143002) else (transhumanceref06_May.j1 k x3 false x143000 x143001 x143002))
def transhumanceref06_May.j1 : Nat → Int → Bool → Int → Int → Int → Option (Bool)
  | 0, _, _, _, _, _ => none
  | k + 1, x3, x50, x143000, x143001, x143002 => if x50 = true then (some false) else (if x3 < 1 then (if x3 < 2 then (some true) else ((transhumanceref06_most.f k x143000 1).bind fun t144 => (some (decide (x143002 ≤ t144))))) else ((transhumanceref06_most.f k x143000 0).bind fun t145 => (if x143001 ≤ t145 then (if x3 < 2 then (some true) else ((transhumanceref06_most.f k x143000 1).bind fun t146 => (some (decide (x143002 ≤ t146))))) else (some false))))
end
def transhumanceref06_May.f (k : Nat) (a0_0 : Int) (a0_1 : Int) (a0_2 : Int) : Option (Bool) := (transhumanceref06_Fields.f k a0_0).bind fun t143 => (if a0_0 < 0 then (transhumanceref06_May.j0 k t143 true a0_0 a0_1 a0_2) else (if a0_0 > 16 then (transhumanceref06_May.j0 k t143 true a0_0 a0_1 a0_2) else (if a0_1 < 0 then (transhumanceref06_May.j0 k t143 true a0_0 a0_1 a0_2) else (if a0_2 < 0 then (transhumanceref06_May.j0 k t143 true a0_0 a0_1 a0_2) else (if t143 < 2 then (if a0_2 = 0 then (if t143 < 1 then (transhumanceref06_May.j0 k t143 (a0_1 != 0) a0_0 a0_1 a0_2) else (transhumanceref06_May.j0 k t143 false a0_0 a0_1 a0_2)) else (transhumanceref06_May.j0 k t143 true a0_0 a0_1 a0_2)) else (if t143 < 1 then (transhumanceref06_May.j0 k t143 (a0_1 != 0) a0_0 a0_1 a0_2) else (transhumanceref06_May.j0 k t143 false a0_0 a0_1 a0_2)))))))
theorem transhumanceref06_May.mono_l : ∀ k, (∀ y0 y1 y2 y3 y4, LeO (transhumanceref06_May.j0 k y0 y1 y2 y3 y4) (transhumanceref06_May.j0 (k + 1) y0 y1 y2 y3 y4)) ∧ (∀ y0 y1 y2 y3 y4, LeO (transhumanceref06_May.j1 k y0 y1 y2 y3 y4) (transhumanceref06_May.j1 (k + 1) y0 y1 y2 y3 y4))
  | 0 => ⟨fun _ _ _ _ _ r h => by simp [transhumanceref06_May.j0] at h, fun _ _ _ _ _ r h => by simp [transhumanceref06_May.j1] at h⟩
  | k + 1 => by
    obtain ⟨ih0, ih1⟩ := transhumanceref06_May.mono_l k
    refine ⟨?_, ?_⟩
    · intro y0 y1 y2 y3 y4
      unfold transhumanceref06_May.j0
      repeat' first
      | (with_reducible exact ih0 _ _ _ _ _)
      | (with_reducible exact ih1 _ _ _ _ _)
      | (with_reducible exact transhumanceref06_Fields.mono _ _)
      | (with_reducible exact transhumanceref06_most.mono _ _ _)
      | (with_reducible exact LeO.refl _)
      | (with_reducible exact LeO.none _)
      | (with_reducible refine LeO.ite ?_ ?_)
      | (with_reducible refine LeO.bind ?_ (fun _ => ?_))
      | exact ih0 _ _ _ _ _
      | exact ih1 _ _ _ _ _
      | exact transhumanceref06_Fields.mono _ _
      | exact transhumanceref06_most.mono _ _ _
      | exact LeO.none _
      | refine LeO.ite ?_ ?_
      | refine LeO.bind ?_ (fun _ => ?_)
    · intro y0 y1 y2 y3 y4
      unfold transhumanceref06_May.j1
      repeat' first
      | (with_reducible exact ih0 _ _ _ _ _)
      | (with_reducible exact ih1 _ _ _ _ _)
      | (with_reducible exact transhumanceref06_Fields.mono _ _)
      | (with_reducible exact transhumanceref06_most.mono _ _ _)
      | (with_reducible exact LeO.refl _)
      | (with_reducible exact LeO.none _)
      | (with_reducible refine LeO.ite ?_ ?_)
      | (with_reducible refine LeO.bind ?_ (fun _ => ?_))
      | exact ih0 _ _ _ _ _
      | exact ih1 _ _ _ _ _
      | exact transhumanceref06_Fields.mono _ _
      | exact transhumanceref06_most.mono _ _ _
      | exact LeO.none _
      | refine LeO.ite ?_ ?_
      | refine LeO.bind ?_ (fun _ => ?_)
theorem transhumanceref06_May.mono : ∀ a0 a1 a2 k, LeO (transhumanceref06_May.f k a0 a1 a2) (transhumanceref06_May.f (k + 1) a0 a1 a2) := by
  intro a0 a1 a2 k
  obtain ⟨ih0, ih1⟩ := transhumanceref06_May.mono_l k
  unfold transhumanceref06_May.f
  repeat' first
      | (with_reducible exact ih0 _ _ _ _ _)
      | (with_reducible exact ih1 _ _ _ _ _)
      | (with_reducible exact transhumanceref06_Fields.mono _ _)
      | (with_reducible exact transhumanceref06_most.mono _ _ _)
      | (with_reducible exact LeO.refl _)
      | (with_reducible exact LeO.none _)
      | (with_reducible refine LeO.ite ?_ ?_)
      | (with_reducible refine LeO.bind ?_ (fun _ => ?_))
      | exact ih0 _ _ _ _ _
      | exact ih1 _ _ _ _ _
      | exact transhumanceref06_Fields.mono _ _
      | exact transhumanceref06_most.mono _ _ _
      | exact LeO.none _
      | refine LeO.ite ?_ ?_
      | refine LeO.bind ?_ (fun _ => ?_)
set_option maxHeartbeats 8000000 in
set_option maxRecDepth 100000 in
theorem transhumanceref06_May.calls (k : Nat) (a0_0 : Int) (a0_1 : Int) (a0_2 : Int) (r : Bool) (w : World) (h : transhumanceref06_May.f k a0_0 a0_1 a0_2 = some r) :
    Calls Try.prog 34 #[.agg #[.int .i64 a0_0, .int .i64 a0_1, .int .i64 a0_2]] w fun e w' => e = .returned (.bool r) ∧ Below w.heap.size w w' := by
  have hu33 := Try.underlying33
  have HB := Aside0.mk (Below.refl w.heap.size w)
  have H : ((transhumanceref06_Fields.f k a0_0).bind fun t143 => (if a0_0 < 0 then (transhumanceref06_May.j0 k t143 true a0_0 a0_1 a0_2) else (if a0_0 > 16 then (transhumanceref06_May.j0 k t143 true a0_0 a0_1 a0_2) else (if a0_1 < 0 then (transhumanceref06_May.j0 k t143 true a0_0 a0_1 a0_2) else (if a0_2 < 0 then (transhumanceref06_May.j0 k t143 true a0_0 a0_1 a0_2) else (if t143 < 2 then (if a0_2 = 0 then (if t143 < 1 then (transhumanceref06_May.j0 k t143 (a0_1 != 0) a0_0 a0_1 a0_2) else (transhumanceref06_May.j0 k t143 false a0_0 a0_1 a0_2)) else (transhumanceref06_May.j0 k t143 true a0_0 a0_1 a0_2)) else (if t143 < 1 then (transhumanceref06_May.j0 k t143 (a0_1 != 0) a0_0 a0_1 a0_2) else (transhumanceref06_May.j0 k t143 false a0_0 a0_1 a0_2)))))))) = some r := h
  clear h
  replace H := Option.bind_eq_some_iff.mp H
  obtain ⟨t143, A20, H⟩ := H
  replace H : (if a0_0 < 0 then (transhumanceref06_May.j0 k t143 true a0_0 a0_1 a0_2) else (if a0_0 > 16 then (transhumanceref06_May.j0 k t143 true a0_0 a0_1 a0_2) else (if a0_1 < 0 then (transhumanceref06_May.j0 k t143 true a0_0 a0_1 a0_2) else (if a0_2 < 0 then (transhumanceref06_May.j0 k t143 true a0_0 a0_1 a0_2) else (if t143 < 2 then (if a0_2 = 0 then (if t143 < 1 then (transhumanceref06_May.j0 k t143 (a0_1 != 0) a0_0 a0_1 a0_2) else (transhumanceref06_May.j0 k t143 false a0_0 a0_1 a0_2)) else (transhumanceref06_May.j0 k t143 true a0_0 a0_1 a0_2)) else (if t143 < 1 then (transhumanceref06_May.j0 k t143 (a0_1 != 0) a0_0 a0_1 a0_2) else (transhumanceref06_May.j0 k t143 false a0_0 a0_1 a0_2))))))) = some r := H
  have A2 := Aside0.mk A20
  clear A20
  have HC3 := Aside0.mk H
  clear H
  go_enter Try.func34, Try.ntmps34
  go_upto_region 2 with (first | ((with_reducible refine gate_dst (N := 1) rfl ?_); refine box_event ?hg (N := 1) ?hd (cs := #[.int .i64 a0_0, .int .i64 a0_1, .int .i64 a0_2]) (t := 33) ?hr ?_; (case hd => rfl); (case hg => rfl); (case hr => first | (go_simp; done) | (go_simp; rfl)); intro gb142 hg w4 hbox hb; have n0_ := Aside0.mk (below_step (by repeat (first | (with_reducible first | exact HB.out | apply below_alloc | apply pw_below_drewN | apply below_drew1) | exact HB.out)) hb); have n1_ := Aside0.mk (hbox); have n2_ := Aside0.mk ((by rw [hg]; exact (below_size (by repeat (first | (with_reducible first | exact HB.out | apply below_alloc | apply pw_below_drewN | apply below_drew1) | exact HB.out))) : w.heap.size ≤ gb142)); have n3_ := Aside0.mk ((by rw [hg]; exact (below_size (by repeat (first | (with_reducible first | exact HB.out | apply below_alloc | apply pw_below_drewN | apply below_drew1) | exact HB.out))) : w.heap.size ≤ gb142)); clear HB; have HB := n0_; have BK142 := n1_; have GW142 := n2_; have GE142 := n3_; clear n0_ n1_ n2_ n3_; clear hb hbox hg; have hcz5_0 : w4.cell? ⟨gb142, 0, none⟩ = some (.int .i64 a0_0) := (blk_cell BK142.out 0).trans rfl; have hcz5_1 : w4.cell? ⟨gb142, 1, none⟩ = some (.int .i64 a0_1) := (blk_cell BK142.out 1).trans rfl; have hcz5_2 : w4.cell? ⟨gb142, 2, none⟩ = some (.int .i64 a0_2) := (blk_cell BK142.out 2).trans rfl; have hfz5_0 := blk_frozen BK142.out 0; have hfz5_1 := blk_frozen BK142.out 1; have hfz5_2 := blk_frozen BK142.out 2) | (go_at_call 30; (with_reducible refine (transhumanceref06_Fields.calls k a0_0 t143 _ A2.out).mono ?_); rintro e w' ⟨rfl, ⟨nd, rfl⟩⟩; (try first | exact ⟨rfl, _, World.drewN_drewN _ _ _⟩ | exact ⟨rfl, _, Eq.trans (World.drewN_drewN _ _ _) (congrArg (World.drewN _) (Nat.add_assoc _ _ _))⟩)))
  repeat (go_quiet (first | ((with_reducible refine gate_dst (N := 1) rfl ?_); refine box_event ?hg (N := 1) ?hd (cs := #[.int .i64 a0_0, .int .i64 a0_1, .int .i64 a0_2]) (t := 33) ?hr ?_; (case hd => rfl); (case hg => rfl); (case hr => first | (go_simp; done) | (go_simp; rfl)); intro gb142 hg w4 hbox hb; have n0_ := Aside0.mk (below_step (by repeat (first | (with_reducible first | exact HB.out | apply below_alloc | apply pw_below_drewN | apply below_drew1) | exact HB.out)) hb); have n1_ := Aside0.mk (hbox); have n2_ := Aside0.mk ((by rw [hg]; exact (below_size (by repeat (first | (with_reducible first | exact HB.out | apply below_alloc | apply pw_below_drewN | apply below_drew1) | exact HB.out))) : w.heap.size ≤ gb142)); have n3_ := Aside0.mk ((by rw [hg]; exact (below_size (by repeat (first | (with_reducible first | exact HB.out | apply below_alloc | apply pw_below_drewN | apply below_drew1) | exact HB.out))) : w.heap.size ≤ gb142)); clear HB; have HB := n0_; have BK142 := n1_; have GW142 := n2_; have GE142 := n3_; clear n0_ n1_ n2_ n3_; clear hb hbox hg; have hcz5_0 : w4.cell? ⟨gb142, 0, none⟩ = some (.int .i64 a0_0) := (blk_cell BK142.out 0).trans rfl; have hcz5_1 : w4.cell? ⟨gb142, 1, none⟩ = some (.int .i64 a0_1) := (blk_cell BK142.out 1).trans rfl; have hcz5_2 : w4.cell? ⟨gb142, 2, none⟩ = some (.int .i64 a0_2) := (blk_cell BK142.out 2).trans rfl; have hfz5_0 := blk_frozen BK142.out 0; have hfz5_1 := blk_frozen BK142.out 1; have hfz5_2 := blk_frozen BK142.out 2) | (go_at_call 30; (with_reducible refine (transhumanceref06_Fields.calls k a0_0 t143 _ A2.out).mono ?_); rintro e w' ⟨rfl, ⟨nd, rfl⟩⟩; (try first | exact ⟨rfl, _, World.drewN_drewN _ _ _⟩ | exact ⟨rfl, _, Eq.trans (World.drewN_drewN _ _ _) (congrArg (World.drewN _) (Nat.add_assoc _ _ _))⟩))); go_upto_region 2 with (first | ((with_reducible refine gate_dst (N := 1) rfl ?_); refine box_event ?hg (N := 1) ?hd (cs := #[.int .i64 a0_0, .int .i64 a0_1, .int .i64 a0_2]) (t := 33) ?hr ?_; (case hd => rfl); (case hg => rfl); (case hr => first | (go_simp; done) | (go_simp; rfl)); intro gb142 hg w4 hbox hb; have n0_ := Aside0.mk (below_step (by repeat (first | (with_reducible first | exact HB.out | apply below_alloc | apply pw_below_drewN | apply below_drew1) | exact HB.out)) hb); have n1_ := Aside0.mk (hbox); have n2_ := Aside0.mk ((by rw [hg]; exact (below_size (by repeat (first | (with_reducible first | exact HB.out | apply below_alloc | apply pw_below_drewN | apply below_drew1) | exact HB.out))) : w.heap.size ≤ gb142)); have n3_ := Aside0.mk ((by rw [hg]; exact (below_size (by repeat (first | (with_reducible first | exact HB.out | apply below_alloc | apply pw_below_drewN | apply below_drew1) | exact HB.out))) : w.heap.size ≤ gb142)); clear HB; have HB := n0_; have BK142 := n1_; have GW142 := n2_; have GE142 := n3_; clear n0_ n1_ n2_ n3_; clear hb hbox hg; have hcz5_0 : w4.cell? ⟨gb142, 0, none⟩ = some (.int .i64 a0_0) := (blk_cell BK142.out 0).trans rfl; have hcz5_1 : w4.cell? ⟨gb142, 1, none⟩ = some (.int .i64 a0_1) := (blk_cell BK142.out 1).trans rfl; have hcz5_2 : w4.cell? ⟨gb142, 2, none⟩ = some (.int .i64 a0_2) := (blk_cell BK142.out 2).trans rfl; have hfz5_0 := blk_frozen BK142.out 0; have hfz5_1 := blk_frozen BK142.out 1; have hfz5_2 := blk_frozen BK142.out 2) | (go_at_call 30; (with_reducible refine (transhumanceref06_Fields.calls k a0_0 t143 _ A2.out).mono ?_); rintro e w' ⟨rfl, ⟨nd, rfl⟩⟩; (try first | exact ⟨rfl, _, World.drewN_drewN _ _ _⟩ | exact ⟨rfl, _, Eq.trans (World.drewN_drewN _ _ _) (congrArg (World.drewN _) (Nat.add_assoc _ _ _))⟩))))
  (try simp only [Act.put, List.setIfInBounds_toArray, List.set_cons_zero, List.set_cons_succ])
  go_cut [42] (fun v42 wc => ∃ (kq : Nat) (x42_2 : Bool), v42 = .bool x42_2 ∧ Aside0 (transhumanceref06_May.j0 kq t143 x42_2 a0_0 a0_1 a0_2 = some r) ∧ Aside0 (kq ≤ k) ∧ Aside0 (wc.heap[gb142]? = some (.cells #[.int .i64 a0_0, .int .i64 a0_1, .int .i64 a0_2] 33 (0, 0))) ∧ Aside0 (Below w.heap.size w wc))
  case first =>
    have H := HC3.out
    clear HC3
    by_cases c6 : a0_0 < 0
    · rw [if_pos c6] at H
      have c6b0 : decide (a0_0 < 0) = true := decide_eq_true c6
      clear c6
      (first | rw [c6b0] | (simp only [i64_w, i32_w]; rw [c6b0]) | skip)
      have H' := Aside0.mk H
      clear H
      have hcz7_0 : w4.cell? ⟨gb142, 0, none⟩ = some (.int .i64 a0_0) := (blk_cell BK142.out 0).trans rfl
      have hcz7_1 : w4.cell? ⟨gb142, 1, none⟩ = some (.int .i64 a0_1) := (blk_cell BK142.out 1).trans rfl
      have hcz7_2 : w4.cell? ⟨gb142, 2, none⟩ = some (.int .i64 a0_2) := (blk_cell BK142.out 2).trans rfl
      have hfz7_0 := blk_frozen BK142.out 0
      have hfz7_1 := blk_frozen BK142.out 1
      have hfz7_2 := blk_frozen BK142.out 2
      go_wp2
      repeat (go_quiet (fail); try go_wp2)
      go_meet
      case rel => exact ⟨_, (true), (by first | rfl | (simp; done) | (simp [*]; done)), H', ⟨by first | omega | exact Nat.le_refl _⟩, ⟨by (with_reducible repeat (first | refine blk_drewN ?_ _ | refine blk_drew ?_ | refine blk_alloc ?_ _)); exact BK142.out⟩, ⟨by repeat (first | (with_reducible first | exact HB.out | apply below_alloc | apply pw_below_drewN | apply below_drew1 | refine below_set ?_ GE142.out) | exact HB.out)⟩⟩
    · rw [if_neg c6] at H
      have c6b0 : decide (a0_0 < 0) = false := decide_eq_false c6
      clear c6
      (first | rw [c6b0] | (simp only [i64_w, i32_w]; rw [c6b0]) | skip)
      by_cases c8 : a0_0 > 16
      · rw [if_pos c8] at H
        have c8b0 : decide (16 < a0_0) = true := decide_eq_true c8
        clear c8
        have H' := Aside0.mk H
        clear H
        have hcz9_0 : w4.cell? ⟨gb142, 0, none⟩ = some (.int .i64 a0_0) := (blk_cell BK142.out 0).trans rfl
        have hcz9_1 : w4.cell? ⟨gb142, 1, none⟩ = some (.int .i64 a0_1) := (blk_cell BK142.out 1).trans rfl
        have hcz9_2 : w4.cell? ⟨gb142, 2, none⟩ = some (.int .i64 a0_2) := (blk_cell BK142.out 2).trans rfl
        have hfz9_0 := blk_frozen BK142.out 0
        have hfz9_1 := blk_frozen BK142.out 1
        have hfz9_2 := blk_frozen BK142.out 2
        go_wp2
        repeat (go_quiet (fail); try go_wp2)
        go_meet
        case rel => exact ⟨_, (true), (by first | rfl | (simp; done) | (simp [*]; done)), H', ⟨by first | omega | exact Nat.le_refl _⟩, ⟨by (with_reducible repeat (first | refine blk_drewN ?_ _ | refine blk_drew ?_ | refine blk_alloc ?_ _)); exact BK142.out⟩, ⟨by repeat (first | (with_reducible first | exact HB.out | apply below_alloc | apply pw_below_drewN | apply below_drew1 | refine below_set ?_ GE142.out) | exact HB.out)⟩⟩
      · rw [if_neg c8] at H
        have c8b0 : decide (16 < a0_0) = false := decide_eq_false c8
        clear c8
        by_cases c10 : a0_1 < 0
        · rw [if_pos c10] at H
          have c10b0 : decide (a0_1 < 0) = true := decide_eq_true c10
          clear c10
          have H' := Aside0.mk H
          clear H
          have hcz11_0 : w4.cell? ⟨gb142, 0, none⟩ = some (.int .i64 a0_0) := (blk_cell BK142.out 0).trans rfl
          have hcz11_1 : w4.cell? ⟨gb142, 1, none⟩ = some (.int .i64 a0_1) := (blk_cell BK142.out 1).trans rfl
          have hcz11_2 : w4.cell? ⟨gb142, 2, none⟩ = some (.int .i64 a0_2) := (blk_cell BK142.out 2).trans rfl
          have hfz11_0 := blk_frozen BK142.out 0
          have hfz11_1 := blk_frozen BK142.out 1
          have hfz11_2 := blk_frozen BK142.out 2
          go_wp2
          repeat (go_quiet (fail); try go_wp2)
          go_meet
          case rel => exact ⟨_, (true), (by first | rfl | (simp; done) | (simp [*]; done)), H', ⟨by first | omega | exact Nat.le_refl _⟩, ⟨by (with_reducible repeat (first | refine blk_drewN ?_ _ | refine blk_drew ?_ | refine blk_alloc ?_ _)); exact BK142.out⟩, ⟨by repeat (first | (with_reducible first | exact HB.out | apply below_alloc | apply pw_below_drewN | apply below_drew1 | refine below_set ?_ GE142.out) | exact HB.out)⟩⟩
        · rw [if_neg c10] at H
          have c10b0 : decide (a0_1 < 0) = false := decide_eq_false c10
          clear c10
          by_cases c12 : a0_2 < 0
          · rw [if_pos c12] at H
            have c12b0 : decide (a0_2 < 0) = true := decide_eq_true c12
            clear c12
            have H' := Aside0.mk H
            clear H
            have hcz13_0 : w4.cell? ⟨gb142, 0, none⟩ = some (.int .i64 a0_0) := (blk_cell BK142.out 0).trans rfl
            have hcz13_1 : w4.cell? ⟨gb142, 1, none⟩ = some (.int .i64 a0_1) := (blk_cell BK142.out 1).trans rfl
            have hcz13_2 : w4.cell? ⟨gb142, 2, none⟩ = some (.int .i64 a0_2) := (blk_cell BK142.out 2).trans rfl
            have hfz13_0 := blk_frozen BK142.out 0
            have hfz13_1 := blk_frozen BK142.out 1
            have hfz13_2 := blk_frozen BK142.out 2
            go_wp2
            repeat (go_quiet (fail); try go_wp2)
            go_meet
            case rel => exact ⟨_, (true), (by first | rfl | (simp; done) | (simp [*]; done)), H', ⟨by first | omega | exact Nat.le_refl _⟩, ⟨by (with_reducible repeat (first | refine blk_drewN ?_ _ | refine blk_drew ?_ | refine blk_alloc ?_ _)); exact BK142.out⟩, ⟨by repeat (first | (with_reducible first | exact HB.out | apply below_alloc | apply pw_below_drewN | apply below_drew1 | refine below_set ?_ GE142.out) | exact HB.out)⟩⟩
          · rw [if_neg c12] at H
            have c12b0 : decide (a0_2 < 0) = false := decide_eq_false c12
            clear c12
            by_cases c14 : t143 < 2
            · rw [if_pos c14] at H
              have c14b0 : decide (t143 < 2) = true := decide_eq_true c14
              clear c14
              by_cases c15 : a0_2 = 0
              · rw [if_pos c15] at H
                have c15b0 : (a0_2 == 0) = true := beq_iff_eq.mpr c15
                have c15b1 : (a0_2 != 0) = false := bne_eq_false_iff_eq.mpr c15
                clear c15
                by_cases c16 : t143 < 1
                · rw [if_pos c16] at H
                  have c16b0 : decide (t143 < 1) = true := decide_eq_true c16
                  clear c16
                  have H' := Aside0.mk H
                  clear H
                  have hcz17_0 : w4.cell? ⟨gb142, 0, none⟩ = some (.int .i64 a0_0) := (blk_cell BK142.out 0).trans rfl
                  have hcz17_1 : w4.cell? ⟨gb142, 1, none⟩ = some (.int .i64 a0_1) := (blk_cell BK142.out 1).trans rfl
                  have hcz17_2 : w4.cell? ⟨gb142, 2, none⟩ = some (.int .i64 a0_2) := (blk_cell BK142.out 2).trans rfl
                  have hfz17_0 := blk_frozen BK142.out 0
                  have hfz17_1 := blk_frozen BK142.out 1
                  have hfz17_2 := blk_frozen BK142.out 2
                  go_wp2
                  repeat (go_quiet (fail); try go_wp2)
                  go_meet
                  case rel => exact ⟨_, ((a0_1 != 0)), (by first | rfl | (simp; done) | (simp [*]; done)), H', ⟨by first | omega | exact Nat.le_refl _⟩, ⟨by (with_reducible repeat (first | refine blk_drewN ?_ _ | refine blk_drew ?_ | refine blk_alloc ?_ _)); exact BK142.out⟩, ⟨by repeat (first | (with_reducible first | exact HB.out | apply below_alloc | apply pw_below_drewN | apply below_drew1 | refine below_set ?_ GE142.out) | exact HB.out)⟩⟩
                · rw [if_neg c16] at H
                  have c16b0 : decide (t143 < 1) = false := decide_eq_false c16
                  clear c16
                  have H' := Aside0.mk H
                  clear H
                  have hcz18_0 : w4.cell? ⟨gb142, 0, none⟩ = some (.int .i64 a0_0) := (blk_cell BK142.out 0).trans rfl
                  have hcz18_1 : w4.cell? ⟨gb142, 1, none⟩ = some (.int .i64 a0_1) := (blk_cell BK142.out 1).trans rfl
                  have hcz18_2 : w4.cell? ⟨gb142, 2, none⟩ = some (.int .i64 a0_2) := (blk_cell BK142.out 2).trans rfl
                  have hfz18_0 := blk_frozen BK142.out 0
                  have hfz18_1 := blk_frozen BK142.out 1
                  have hfz18_2 := blk_frozen BK142.out 2
                  go_wp2
                  repeat (go_quiet (fail); try go_wp2)
                  go_meet
                  case rel => exact ⟨_, (false), (by first | rfl | (simp; done) | (simp [*]; done)), H', ⟨by first | omega | exact Nat.le_refl _⟩, ⟨by (with_reducible repeat (first | refine blk_drewN ?_ _ | refine blk_drew ?_ | refine blk_alloc ?_ _)); exact BK142.out⟩, ⟨by repeat (first | (with_reducible first | exact HB.out | apply below_alloc | apply pw_below_drewN | apply below_drew1 | refine below_set ?_ GE142.out) | exact HB.out)⟩⟩
              · rw [if_neg c15] at H
                have c15b0 : (a0_2 == 0) = false := beq_eq_false_iff_ne.mpr c15
                have c15b1 : (a0_2 != 0) = true := bne_iff_ne.mpr c15
                have H' := Aside0.mk H
                clear H
                have hcz19_0 : w4.cell? ⟨gb142, 0, none⟩ = some (.int .i64 a0_0) := (blk_cell BK142.out 0).trans rfl
                have hcz19_1 : w4.cell? ⟨gb142, 1, none⟩ = some (.int .i64 a0_1) := (blk_cell BK142.out 1).trans rfl
                have hcz19_2 : w4.cell? ⟨gb142, 2, none⟩ = some (.int .i64 a0_2) := (blk_cell BK142.out 2).trans rfl
                have hfz19_0 := blk_frozen BK142.out 0
                have hfz19_1 := blk_frozen BK142.out 1
                have hfz19_2 := blk_frozen BK142.out 2
                go_wp2
                repeat (go_quiet (fail); try go_wp2)
                go_meet
                case rel => exact ⟨_, (true), (by first | rfl | (simp; done) | (simp [*]; done)), H', ⟨by first | omega | exact Nat.le_refl _⟩, ⟨by (with_reducible repeat (first | refine blk_drewN ?_ _ | refine blk_drew ?_ | refine blk_alloc ?_ _)); exact BK142.out⟩, ⟨by repeat (first | (with_reducible first | exact HB.out | apply below_alloc | apply pw_below_drewN | apply below_drew1 | refine below_set ?_ GE142.out) | exact HB.out)⟩⟩
            · rw [if_neg c14] at H
              have c14b0 : decide (t143 < 2) = false := decide_eq_false c14
              clear c14
              by_cases c20 : t143 < 1
              · rw [if_pos c20] at H
                have c20b0 : decide (t143 < 1) = true := decide_eq_true c20
                clear c20
                have H' := Aside0.mk H
                clear H
                have hcz21_0 : w4.cell? ⟨gb142, 0, none⟩ = some (.int .i64 a0_0) := (blk_cell BK142.out 0).trans rfl
                have hcz21_1 : w4.cell? ⟨gb142, 1, none⟩ = some (.int .i64 a0_1) := (blk_cell BK142.out 1).trans rfl
                have hcz21_2 : w4.cell? ⟨gb142, 2, none⟩ = some (.int .i64 a0_2) := (blk_cell BK142.out 2).trans rfl
                have hfz21_0 := blk_frozen BK142.out 0
                have hfz21_1 := blk_frozen BK142.out 1
                have hfz21_2 := blk_frozen BK142.out 2
                go_wp2
                repeat (go_quiet (fail); try go_wp2)
                go_meet
                case rel => exact ⟨_, ((a0_1 != 0)), (by first | rfl | (simp; done) | (simp [*]; done)), H', ⟨by first | omega | exact Nat.le_refl _⟩, ⟨by (with_reducible repeat (first | refine blk_drewN ?_ _ | refine blk_drew ?_ | refine blk_alloc ?_ _)); exact BK142.out⟩, ⟨by repeat (first | (with_reducible first | exact HB.out | apply below_alloc | apply pw_below_drewN | apply below_drew1 | refine below_set ?_ GE142.out) | exact HB.out)⟩⟩
              · rw [if_neg c20] at H
                have c20b0 : decide (t143 < 1) = false := decide_eq_false c20
                clear c20
                have H' := Aside0.mk H
                clear H
                have hcz22_0 : w4.cell? ⟨gb142, 0, none⟩ = some (.int .i64 a0_0) := (blk_cell BK142.out 0).trans rfl
                have hcz22_1 : w4.cell? ⟨gb142, 1, none⟩ = some (.int .i64 a0_1) := (blk_cell BK142.out 1).trans rfl
                have hcz22_2 : w4.cell? ⟨gb142, 2, none⟩ = some (.int .i64 a0_2) := (blk_cell BK142.out 2).trans rfl
                have hfz22_0 := blk_frozen BK142.out 0
                have hfz22_1 := blk_frozen BK142.out 1
                have hfz22_2 := blk_frozen BK142.out 2
                go_wp2
                repeat (go_quiet (fail); try go_wp2)
                go_meet
                case rel => exact ⟨_, (false), (by first | rfl | (simp; done) | (simp [*]; done)), H', ⟨by first | omega | exact Nat.le_refl _⟩, ⟨by (with_reducible repeat (first | refine blk_drewN ?_ _ | refine blk_drew ?_ | refine blk_alloc ?_ _)); exact BK142.out⟩, ⟨by repeat (first | (with_reducible first | exact HB.out | apply below_alloc | apply pw_below_drewN | apply below_drew1 | refine below_set ?_ GE142.out) | exact HB.out)⟩⟩
  case rest =>
    clear HC3
    try clear c1
    try clear c2
    try clear p2
    try clear c3
    try clear c6
    try clear c6b0
    try clear c8
    try clear c8b0
    try clear c10
    try clear c10b0
    try clear c12
    try clear c12b0
    try clear c14
    try clear c14b0
    try clear c15
    try clear c15b0
    try clear c15b1
    try clear c16
    try clear c16b0
    try clear c20
    try clear c20b0
    try clear hcz11_0
    try clear hcz11_1
    try clear hcz11_2
    try clear hcz13_0
    try clear hcz13_1
    try clear hcz13_2
    try clear hcz17_0
    try clear hcz17_1
    try clear hcz17_2
    try clear hcz18_0
    try clear hcz18_1
    try clear hcz18_2
    try clear hcz19_0
    try clear hcz19_1
    try clear hcz19_2
    try clear hcz21_0
    try clear hcz21_1
    try clear hcz21_2
    try clear hcz22_0
    try clear hcz22_1
    try clear hcz22_2
    try clear hcz5_0
    try clear hcz5_1
    try clear hcz5_2
    try clear hcz7_0
    try clear hcz7_1
    try clear hcz7_2
    try clear hcz9_0
    try clear hcz9_1
    try clear hcz9_2
    try clear hfz11_0
    try clear hfz11_1
    try clear hfz11_2
    try clear hfz13_0
    try clear hfz13_1
    try clear hfz13_2
    try clear hfz17_0
    try clear hfz17_1
    try clear hfz17_2
    try clear hfz18_0
    try clear hfz18_1
    try clear hfz18_2
    try clear hfz19_0
    try clear hfz19_1
    try clear hfz19_2
    try clear hfz21_0
    try clear hfz21_1
    try clear hfz21_2
    try clear hfz22_0
    try clear hfz22_1
    try clear hfz22_2
    try clear hfz5_0
    try clear hfz5_1
    try clear hfz5_2
    try clear hfz7_0
    try clear hfz7_1
    try clear hfz7_2
    try clear hfz9_0
    try clear hfz9_1
    try clear hfz9_2
    obtain ⟨kq, x42_2, rfl, HA, HJ2, BK142, HB⟩ := hcut
    cases kq with
    | zero => exact absurd HA.out (by simp [transhumanceref06_May.j0])
    | succ kj2 =>
      have H := HA.out
      clear HA
      simp only [transhumanceref06_May.j0] at H
      by_cases c23 : x42_2 = true
      · subst c23
        have H1 : (some false) = some r := by rw [if_pos rfl] at H; exact H
        clear H
        have H := H1
        clear H1
        obtain rfl := Option.some.inj H
        go_wp2
        repeat (go_quiet (fail); try go_wp2)
        go_ret
        exact ⟨by first | rfl | (simp [errW_none, errW_some] <;> rfl) | (simp [*, errW_none, errW_some] <;> rfl), by repeat (first | (with_reducible first | exact HB.out | apply below_alloc | apply pw_below_drewN | apply below_drew1 | refine below_set ?_ GE142.out) | exact HB.out)⟩
      · replace c23 := Bool.eq_false_iff.mpr c23
        subst c23
        have H1 : (if a0_0 = 16 then (transhumanceref06_May.j1 kj2 t143 (decide (a0_1 < 16)) a0_0 a0_1 a0_2) else (transhumanceref06_May.j1 kj2 t143 false a0_0 a0_1 a0_2)) = some r := by rw [if_neg (show ¬ (false = true) by decide)] at H; exact H
        clear H
        have H := H1
        clear H1
        have HC24 := Aside0.mk H
        clear H
        go_upto_region 4 with (fail)
        repeat (go_quiet (fail); go_upto_region 4 with (fail))
        go_cut [50] (fun v50 wc => ∃ (kq : Nat) (x50_23 : Bool), v50 = .bool x50_23 ∧ Aside0 (transhumanceref06_May.j1 kq t143 x50_23 a0_0 a0_1 a0_2 = some r) ∧ Aside0 (kq ≤ kj2) ∧ Aside0 (wc.heap[gb142]? = some (.cells #[.int .i64 a0_0, .int .i64 a0_1, .int .i64 a0_2] 33 (0, 0))) ∧ Aside0 (Below w.heap.size w wc))
        case first =>
          have H := HC24.out
          clear HC24
          by_cases c25 : a0_0 = 16
          · rw [if_pos c25] at H
            have c25b0 : (a0_0 == 16) = true := beq_iff_eq.mpr c25
            have c25b1 : (a0_0 != 16) = false := bne_eq_false_iff_eq.mpr c25
            clear c25
            (first | rw [c25b0] | (simp only [i64_w, i32_w]; rw [c25b0]) | skip)
            have H' := Aside0.mk H
            clear H
            have hcz26_0 : wc.cell? ⟨gb142, 0, none⟩ = some (.int .i64 a0_0) := (blk_cell BK142.out 0).trans rfl
            have hcz26_1 : wc.cell? ⟨gb142, 1, none⟩ = some (.int .i64 a0_1) := (blk_cell BK142.out 1).trans rfl
            have hcz26_2 : wc.cell? ⟨gb142, 2, none⟩ = some (.int .i64 a0_2) := (blk_cell BK142.out 2).trans rfl
            have hfz26_0 := blk_frozen BK142.out 0
            have hfz26_1 := blk_frozen BK142.out 1
            have hfz26_2 := blk_frozen BK142.out 2
            go_wp2
            repeat (go_quiet (fail); try go_wp2)
            go_meet
            case rel => exact ⟨_, (decide (a0_1 < 16)), (by first | rfl | (simp; done) | (simp [*]; done)), H', ⟨by have := HJ2.out; first | omega | exact Nat.le_refl _⟩, ⟨by (with_reducible repeat (first | refine blk_drewN ?_ _ | refine blk_drew ?_ | refine blk_alloc ?_ _)); exact BK142.out⟩, ⟨by repeat (first | (with_reducible first | exact HB.out | apply below_alloc | apply pw_below_drewN | apply below_drew1 | refine below_set ?_ GE142.out) | exact HB.out)⟩⟩
          · rw [if_neg c25] at H
            have c25b0 : (a0_0 == 16) = false := beq_eq_false_iff_ne.mpr c25
            have c25b1 : (a0_0 != 16) = true := bne_iff_ne.mpr c25
            (first | rw [c25b0] | (simp only [i64_w, i32_w]; rw [c25b0]) | skip)
            have H' := Aside0.mk H
            clear H
            have hcz27_0 : wc.cell? ⟨gb142, 0, none⟩ = some (.int .i64 a0_0) := (blk_cell BK142.out 0).trans rfl
            have hcz27_1 : wc.cell? ⟨gb142, 1, none⟩ = some (.int .i64 a0_1) := (blk_cell BK142.out 1).trans rfl
            have hcz27_2 : wc.cell? ⟨gb142, 2, none⟩ = some (.int .i64 a0_2) := (blk_cell BK142.out 2).trans rfl
            have hfz27_0 := blk_frozen BK142.out 0
            have hfz27_1 := blk_frozen BK142.out 1
            have hfz27_2 := blk_frozen BK142.out 2
            go_wp2
            repeat (go_quiet (fail); try go_wp2)
            go_meet
            case rel => exact ⟨_, (false), (by first | rfl | (simp; done) | (simp [*]; done)), H', ⟨by have := HJ2.out; first | omega | exact Nat.le_refl _⟩, ⟨by (with_reducible repeat (first | refine blk_drewN ?_ _ | refine blk_drew ?_ | refine blk_alloc ?_ _)); exact BK142.out⟩, ⟨by repeat (first | (with_reducible first | exact HB.out | apply below_alloc | apply pw_below_drewN | apply below_drew1 | refine below_set ?_ GE142.out) | exact HB.out)⟩⟩
        case rest =>
          clear HC24
          try clear c1
          try clear c2
          try clear p2
          try clear c3
          try clear c6
          try clear c6b0
          try clear c8
          try clear c8b0
          try clear c10
          try clear c10b0
          try clear c12
          try clear c12b0
          try clear c14
          try clear c14b0
          try clear c15
          try clear c15b0
          try clear c15b1
          try clear c16
          try clear c16b0
          try clear c20
          try clear c20b0
          try clear c23
          try clear c25
          try clear c25b0
          try clear c25b1
          try clear hcz11_0
          try clear hcz11_1
          try clear hcz11_2
          try clear hcz13_0
          try clear hcz13_1
          try clear hcz13_2
          try clear hcz17_0
          try clear hcz17_1
          try clear hcz17_2
          try clear hcz18_0
          try clear hcz18_1
          try clear hcz18_2
          try clear hcz19_0
          try clear hcz19_1
          try clear hcz19_2
          try clear hcz21_0
          try clear hcz21_1
          try clear hcz21_2
          try clear hcz22_0
          try clear hcz22_1
          try clear hcz22_2
          try clear hcz26_0
          try clear hcz26_1
          try clear hcz26_2
          try clear hcz27_0
          try clear hcz27_1
          try clear hcz27_2
          try clear hcz5_0
          try clear hcz5_1
          try clear hcz5_2
          try clear hcz7_0
          try clear hcz7_1
          try clear hcz7_2
          try clear hcz9_0
          try clear hcz9_1
          try clear hcz9_2
          try clear hfz11_0
          try clear hfz11_1
          try clear hfz11_2
          try clear hfz13_0
          try clear hfz13_1
          try clear hfz13_2
          try clear hfz17_0
          try clear hfz17_1
          try clear hfz17_2
          try clear hfz18_0
          try clear hfz18_1
          try clear hfz18_2
          try clear hfz19_0
          try clear hfz19_1
          try clear hfz19_2
          try clear hfz21_0
          try clear hfz21_1
          try clear hfz21_2
          try clear hfz22_0
          try clear hfz22_1
          try clear hfz22_2
          try clear hfz26_0
          try clear hfz26_1
          try clear hfz26_2
          try clear hfz27_0
          try clear hfz27_1
          try clear hfz27_2
          try clear hfz5_0
          try clear hfz5_1
          try clear hfz5_2
          try clear hfz7_0
          try clear hfz7_1
          try clear hfz7_2
          try clear hfz9_0
          try clear hfz9_1
          try clear hfz9_2
          try clear p2
          obtain ⟨kq, x50_23, rfl, HA, HJ23, BK142, HB⟩ := hcut
          cases kq with
          | zero => exact absurd HA.out (by simp [transhumanceref06_May.j1])
          | succ kj23 =>
            have H := HA.out
            clear HA
            simp only [transhumanceref06_May.j1] at H
            by_cases c28 : x50_23 = true
            · subst c28
              have H1 : (some false) = some r := by rw [if_pos rfl] at H; exact H
              clear H
              have H := H1
              clear H1
              obtain rfl := Option.some.inj H
              go_wp2
              repeat (go_quiet (fail); try go_wp2)
              go_ret
              exact ⟨by first | rfl | (simp [errW_none, errW_some] <;> rfl) | (simp [*, errW_none, errW_some] <;> rfl), by repeat (first | (with_reducible first | exact HB.out | apply below_alloc | apply pw_below_drewN | apply below_drew1 | refine below_set ?_ GE142.out) | exact HB.out)⟩
            · replace c28 := Bool.eq_false_iff.mpr c28
              subst c28
              have H1 : (if t143 < 1 then (if t143 < 2 then (some true) else ((transhumanceref06_most.f kj23 a0_0 1).bind fun t144 => (some (decide (a0_2 ≤ t144))))) else ((transhumanceref06_most.f kj23 a0_0 0).bind fun t145 => (if a0_1 ≤ t145 then (if t143 < 2 then (some true) else ((transhumanceref06_most.f kj23 a0_0 1).bind fun t146 => (some (decide (a0_2 ≤ t146))))) else (some false)))) = some r := by rw [if_neg (show ¬ (false = true) by decide)] at H; exact H
              clear H
              have H := H1
              clear H1
              by_cases c29 : t143 < 1
              · rw [if_pos c29] at H
                have c29b0 : decide (t143 < 1) = true := decide_eq_true c29
                clear c29
                by_cases c30 : t143 < 2
                · rw [if_pos c30] at H
                  have c30b0 : decide (t143 < 2) = true := decide_eq_true c30
                  clear c30
                  obtain rfl := Option.some.inj H
                  go_wp2
                  repeat (go_quiet (fail); try go_wp2)
                  go_ret
                  exact ⟨by first | rfl | (simp [errW_none, errW_some] <;> rfl) | (simp [*, errW_none, errW_some] <;> rfl), by repeat (first | (with_reducible first | exact HB.out | apply below_alloc | apply pw_below_drewN | apply below_drew1 | refine below_set ?_ GE142.out) | exact HB.out)⟩
                · rw [if_neg c30] at H
                  have c30b0 : decide (t143 < 2) = false := decide_eq_false c30
                  clear c30
                  replace H := Option.bind_eq_some_iff.mp H
                  obtain ⟨t144, A310, H⟩ := H
                  replace H : (some (decide (a0_2 ≤ t144))) = some r := H
                  have A31 := Aside0.mk A310
                  clear A310
                  obtain rfl := Option.some.inj H
                  have hcz32_0 : wc.cell? ⟨gb142, 0, none⟩ = some (.int .i64 a0_0) := (blk_cell BK142.out 0).trans rfl
                  have hcz32_1 : wc.cell? ⟨gb142, 1, none⟩ = some (.int .i64 a0_1) := (blk_cell BK142.out 1).trans rfl
                  have hcz32_2 : wc.cell? ⟨gb142, 2, none⟩ = some (.int .i64 a0_2) := (blk_cell BK142.out 2).trans rfl
                  have hfz32_0 := blk_frozen BK142.out 0
                  have hfz32_1 := blk_frozen BK142.out 1
                  have hfz32_2 := blk_frozen BK142.out 2
                  go_wp2_with (first | (go_at_call 47; (with_reducible refine (transhumanceref06_most.calls kj23 a0_0 1 t144 _ A31.out).mono ?_); rintro e w' ⟨rfl, ⟨nd, rfl⟩⟩; (try first | exact ⟨rfl, _, World.drewN_drewN _ _ _⟩ | exact ⟨rfl, _, Eq.trans (World.drewN_drewN _ _ _) (congrArg (World.drewN _) (Nat.add_assoc _ _ _))⟩)))
                  repeat (go_quiet (first | (go_at_call 47; (with_reducible refine (transhumanceref06_most.calls kj23 a0_0 1 t144 _ A31.out).mono ?_); rintro e w' ⟨rfl, ⟨nd, rfl⟩⟩; (try first | exact ⟨rfl, _, World.drewN_drewN _ _ _⟩ | exact ⟨rfl, _, Eq.trans (World.drewN_drewN _ _ _) (congrArg (World.drewN _) (Nat.add_assoc _ _ _))⟩))); try go_wp2_with (first | (go_at_call 47; (with_reducible refine (transhumanceref06_most.calls kj23 a0_0 1 t144 _ A31.out).mono ?_); rintro e w' ⟨rfl, ⟨nd, rfl⟩⟩; (try first | exact ⟨rfl, _, World.drewN_drewN _ _ _⟩ | exact ⟨rfl, _, Eq.trans (World.drewN_drewN _ _ _) (congrArg (World.drewN _) (Nat.add_assoc _ _ _))⟩))))
                  go_ret
                  exact ⟨by first | rfl | (simp [errW_none, errW_some] <;> rfl) | (simp [*, errW_none, errW_some] <;> rfl), by repeat (first | (with_reducible first | exact HB.out | apply below_alloc | apply pw_below_drewN | apply below_drew1 | refine below_set ?_ GE142.out) | exact HB.out)⟩
              · rw [if_neg c29] at H
                have c29b0 : decide (t143 < 1) = false := decide_eq_false c29
                clear c29
                replace H := Option.bind_eq_some_iff.mp H
                obtain ⟨t145, A330, H⟩ := H
                replace H : (if a0_1 ≤ t145 then (if t143 < 2 then (some true) else ((transhumanceref06_most.f kj23 a0_0 1).bind fun t146 => (some (decide (a0_2 ≤ t146))))) else (some false)) = some r := H
                have A33 := Aside0.mk A330
                clear A330
                by_cases c34 : a0_1 ≤ t145
                · rw [if_pos c34] at H
                  have c34b0 : decide (a0_1 ≤ t145) = true := decide_eq_true c34
                  clear c34
                  by_cases c35 : t143 < 2
                  · rw [if_pos c35] at H
                    have c35b0 : decide (t143 < 2) = true := decide_eq_true c35
                    clear c35
                    obtain rfl := Option.some.inj H
                    have hcz36_0 : wc.cell? ⟨gb142, 0, none⟩ = some (.int .i64 a0_0) := (blk_cell BK142.out 0).trans rfl
                    have hcz36_1 : wc.cell? ⟨gb142, 1, none⟩ = some (.int .i64 a0_1) := (blk_cell BK142.out 1).trans rfl
                    have hcz36_2 : wc.cell? ⟨gb142, 2, none⟩ = some (.int .i64 a0_2) := (blk_cell BK142.out 2).trans rfl
                    have hfz36_0 := blk_frozen BK142.out 0
                    have hfz36_1 := blk_frozen BK142.out 1
                    have hfz36_2 := blk_frozen BK142.out 2
                    go_wp2_with (first | (go_at_call 47; (with_reducible refine (transhumanceref06_most.calls kj23 a0_0 0 t145 _ A33.out).mono ?_); rintro e w' ⟨rfl, ⟨nd, rfl⟩⟩; (try first | exact ⟨rfl, _, World.drewN_drewN _ _ _⟩ | exact ⟨rfl, _, Eq.trans (World.drewN_drewN _ _ _) (congrArg (World.drewN _) (Nat.add_assoc _ _ _))⟩)))
                    repeat (go_quiet (first | (go_at_call 47; (with_reducible refine (transhumanceref06_most.calls kj23 a0_0 0 t145 _ A33.out).mono ?_); rintro e w' ⟨rfl, ⟨nd, rfl⟩⟩; (try first | exact ⟨rfl, _, World.drewN_drewN _ _ _⟩ | exact ⟨rfl, _, Eq.trans (World.drewN_drewN _ _ _) (congrArg (World.drewN _) (Nat.add_assoc _ _ _))⟩))); try go_wp2_with (first | (go_at_call 47; (with_reducible refine (transhumanceref06_most.calls kj23 a0_0 0 t145 _ A33.out).mono ?_); rintro e w' ⟨rfl, ⟨nd, rfl⟩⟩; (try first | exact ⟨rfl, _, World.drewN_drewN _ _ _⟩ | exact ⟨rfl, _, Eq.trans (World.drewN_drewN _ _ _) (congrArg (World.drewN _) (Nat.add_assoc _ _ _))⟩))))
                    go_ret
                    exact ⟨by first | rfl | (simp [errW_none, errW_some] <;> rfl) | (simp [*, errW_none, errW_some] <;> rfl), by repeat (first | (with_reducible first | exact HB.out | apply below_alloc | apply pw_below_drewN | apply below_drew1 | refine below_set ?_ GE142.out) | exact HB.out)⟩
                  · rw [if_neg c35] at H
                    have c35b0 : decide (t143 < 2) = false := decide_eq_false c35
                    clear c35
                    replace H := Option.bind_eq_some_iff.mp H
                    obtain ⟨t146, A370, H⟩ := H
                    replace H : (some (decide (a0_2 ≤ t146))) = some r := H
                    have A37 := Aside0.mk A370
                    clear A370
                    obtain rfl := Option.some.inj H
                    have hcz38_0 : wc.cell? ⟨gb142, 0, none⟩ = some (.int .i64 a0_0) := (blk_cell BK142.out 0).trans rfl
                    have hcz38_1 : wc.cell? ⟨gb142, 1, none⟩ = some (.int .i64 a0_1) := (blk_cell BK142.out 1).trans rfl
                    have hcz38_2 : wc.cell? ⟨gb142, 2, none⟩ = some (.int .i64 a0_2) := (blk_cell BK142.out 2).trans rfl
                    have hfz38_0 := blk_frozen BK142.out 0
                    have hfz38_1 := blk_frozen BK142.out 1
                    have hfz38_2 := blk_frozen BK142.out 2
                    go_wp2_with (first | (go_at_call 47; (with_reducible refine (transhumanceref06_most.calls kj23 a0_0 0 t145 _ A33.out).mono ?_); rintro e w' ⟨rfl, ⟨nd, rfl⟩⟩; (try first | exact ⟨rfl, _, World.drewN_drewN _ _ _⟩ | exact ⟨rfl, _, Eq.trans (World.drewN_drewN _ _ _) (congrArg (World.drewN _) (Nat.add_assoc _ _ _))⟩)) | (go_at_call 47; (with_reducible refine (transhumanceref06_most.calls kj23 a0_0 1 t146 _ A37.out).mono ?_); rintro e w' ⟨rfl, ⟨nd, rfl⟩⟩; (try first | exact ⟨rfl, _, World.drewN_drewN _ _ _⟩ | exact ⟨rfl, _, Eq.trans (World.drewN_drewN _ _ _) (congrArg (World.drewN _) (Nat.add_assoc _ _ _))⟩)))
                    repeat (go_quiet (first | (go_at_call 47; (with_reducible refine (transhumanceref06_most.calls kj23 a0_0 0 t145 _ A33.out).mono ?_); rintro e w' ⟨rfl, ⟨nd, rfl⟩⟩; (try first | exact ⟨rfl, _, World.drewN_drewN _ _ _⟩ | exact ⟨rfl, _, Eq.trans (World.drewN_drewN _ _ _) (congrArg (World.drewN _) (Nat.add_assoc _ _ _))⟩)) | (go_at_call 47; (with_reducible refine (transhumanceref06_most.calls kj23 a0_0 1 t146 _ A37.out).mono ?_); rintro e w' ⟨rfl, ⟨nd, rfl⟩⟩; (try first | exact ⟨rfl, _, World.drewN_drewN _ _ _⟩ | exact ⟨rfl, _, Eq.trans (World.drewN_drewN _ _ _) (congrArg (World.drewN _) (Nat.add_assoc _ _ _))⟩))); try go_wp2_with (first | (go_at_call 47; (with_reducible refine (transhumanceref06_most.calls kj23 a0_0 0 t145 _ A33.out).mono ?_); rintro e w' ⟨rfl, ⟨nd, rfl⟩⟩; (try first | exact ⟨rfl, _, World.drewN_drewN _ _ _⟩ | exact ⟨rfl, _, Eq.trans (World.drewN_drewN _ _ _) (congrArg (World.drewN _) (Nat.add_assoc _ _ _))⟩)) | (go_at_call 47; (with_reducible refine (transhumanceref06_most.calls kj23 a0_0 1 t146 _ A37.out).mono ?_); rintro e w' ⟨rfl, ⟨nd, rfl⟩⟩; (try first | exact ⟨rfl, _, World.drewN_drewN _ _ _⟩ | exact ⟨rfl, _, Eq.trans (World.drewN_drewN _ _ _) (congrArg (World.drewN _) (Nat.add_assoc _ _ _))⟩))))
                    go_ret
                    exact ⟨by first | rfl | (simp [errW_none, errW_some] <;> rfl) | (simp [*, errW_none, errW_some] <;> rfl), by repeat (first | (with_reducible first | exact HB.out | apply below_alloc | apply pw_below_drewN | apply below_drew1 | refine below_set ?_ GE142.out) | exact HB.out)⟩
                · rw [if_neg c34] at H
                  have c34b0 : decide (a0_1 ≤ t145) = false := decide_eq_false c34
                  clear c34
                  obtain rfl := Option.some.inj H
                  have hcz39_0 : wc.cell? ⟨gb142, 0, none⟩ = some (.int .i64 a0_0) := (blk_cell BK142.out 0).trans rfl
                  have hcz39_1 : wc.cell? ⟨gb142, 1, none⟩ = some (.int .i64 a0_1) := (blk_cell BK142.out 1).trans rfl
                  have hcz39_2 : wc.cell? ⟨gb142, 2, none⟩ = some (.int .i64 a0_2) := (blk_cell BK142.out 2).trans rfl
                  have hfz39_0 := blk_frozen BK142.out 0
                  have hfz39_1 := blk_frozen BK142.out 1
                  have hfz39_2 := blk_frozen BK142.out 2
                  go_wp2_with (first | (go_at_call 47; (with_reducible refine (transhumanceref06_most.calls kj23 a0_0 0 t145 _ A33.out).mono ?_); rintro e w' ⟨rfl, ⟨nd, rfl⟩⟩; (try first | exact ⟨rfl, _, World.drewN_drewN _ _ _⟩ | exact ⟨rfl, _, Eq.trans (World.drewN_drewN _ _ _) (congrArg (World.drewN _) (Nat.add_assoc _ _ _))⟩)))
                  repeat (go_quiet (first | (go_at_call 47; (with_reducible refine (transhumanceref06_most.calls kj23 a0_0 0 t145 _ A33.out).mono ?_); rintro e w' ⟨rfl, ⟨nd, rfl⟩⟩; (try first | exact ⟨rfl, _, World.drewN_drewN _ _ _⟩ | exact ⟨rfl, _, Eq.trans (World.drewN_drewN _ _ _) (congrArg (World.drewN _) (Nat.add_assoc _ _ _))⟩))); try go_wp2_with (first | (go_at_call 47; (with_reducible refine (transhumanceref06_most.calls kj23 a0_0 0 t145 _ A33.out).mono ?_); rintro e w' ⟨rfl, ⟨nd, rfl⟩⟩; (try first | exact ⟨rfl, _, World.drewN_drewN _ _ _⟩ | exact ⟨rfl, _, Eq.trans (World.drewN_drewN _ _ _) (congrArg (World.drewN _) (Nat.add_assoc _ _ _))⟩))))
                  go_ret
                  exact ⟨by first | rfl | (simp [errW_none, errW_some] <;> rfl) | (simp [*, errW_none, errW_some] <;> rfl), by repeat (first | (with_reducible first | exact HB.out | apply below_alloc | apply pw_below_drewN | apply below_drew1 | refine below_set ?_ GE142.out) | exact HB.out)⟩

end Go.Proofs.Ytlkmomkpdmmjkaa.POpTells
