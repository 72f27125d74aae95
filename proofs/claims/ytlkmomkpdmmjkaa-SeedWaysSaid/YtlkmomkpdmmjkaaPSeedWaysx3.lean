-- Written by a program of this session (a changed copy of the kit's print).
import Derived.Test.YtlkmomkpdmmjkaaPSeedWaysx0
import Derived.Test.YtlkmomkpdmmjkaaPSeedWaysx1
import Derived.Test.YtlkmomkpdmmjkaaPSeedWaysx2
namespace Go.Proofs.Ytlkmomkpdmmjkaa.PSeedWays
open Go.RowKit Go.Proofs.YtlkmomkpdmmjkaaW.PrintWords Go.Proofs.YtlkmomkpdmmjkaaW.PrintLast Go.Proofs.YtlkmomkpdmmjkaaW.PrintMore
attribute [local go_sem] max2_int min2_int max_two min_two max_three min_three max_four min_four   -- for this text's walks alone
set_option linter.unusedVariables false
set_option linter.unusedSimpArgs false

attribute [local go_sem high] eqA25
/-! ### transhumancelaw05_fixed: function 13 -/
def transhumancelaw05_fixed.f (k : Nat)  : Option (Bool) := (seed_Mix.f k 0 4294967295).bind fun t136 => (if t136 = 0 then ((seed_Mix.f k 1 4294967295).bind fun t137 => ((transhumanceref05_Mix.f k 1 4294967295).bind fun t138 => (if t137 = t138 then (if t137 = 0 then (some false) else ((seed_Mix.f k (-1) 0).bind fun t139 => (if t139 = 0 then ((seed_Mix.f k 0 4294967296).bind fun t140 => (if t140 = 0 then ((seed_Child.f k 7 3).bind fun t141 => ((transhumanceref05_Child.f k 7 3).bind fun t142 => (if t141 = t142 then ((seed_Child.f k 7 4).bind fun t143 => (if t141 = t143 then (some false) else ((seed_Draw.f k 7 3).bind fun bt144 => ((transhumanceref05_Draw.f k 7 3).bind fun bt146 => (if (bt144.1 == bt146.1 && (bt144.2 == bt146.2)) = true then ((seed_Draw.f k (-1) 0).bind fun bt148 => (if (bt148.1 == 0 && (bt148.2 == 0)) = true then ((seed_Child.f k 7 (-1)).bind fun t150 => (some (t150 == 0))) else (some false))) else (some false)))))) else (some false)))) else (some false))) else (some false)))) else (some false)))) else (some false))
theorem transhumancelaw05_fixed.mono : ∀ k, LeO (transhumancelaw05_fixed.f k ) (transhumancelaw05_fixed.f (k + 1) ) := by
  intro  k
  unfold transhumancelaw05_fixed.f
  repeat' first
      | (with_reducible exact seed_Child.mono _ _ _)
      | (with_reducible exact seed_Draw.mono _ _ _)
      | (with_reducible exact seed_Mix.mono _ _ _)
      | (with_reducible exact transhumanceref05_Child.mono _ _ _)
      | (with_reducible exact transhumanceref05_Draw.mono _ _ _)
      | (with_reducible exact transhumanceref05_Mix.mono _ _ _)
      | (with_reducible exact LeO.refl _)
      | (with_reducible exact LeO.none _)
      | (with_reducible refine LeO.ite ?_ ?_)
      | (with_reducible refine LeO.bind ?_ (fun _ => ?_))
      | exact seed_Child.mono _ _ _
      | exact seed_Draw.mono _ _ _
      | exact seed_Mix.mono _ _ _
      | exact transhumanceref05_Child.mono _ _ _
      | exact transhumanceref05_Draw.mono _ _ _
      | exact transhumanceref05_Mix.mono _ _ _
      | exact LeO.none _
      | refine LeO.ite ?_ ?_
      | refine LeO.bind ?_ (fun _ => ?_)
set_option maxHeartbeats 8000000 in
set_option maxRecDepth 100000 in
theorem transhumancelaw05_fixed.calls (k : Nat)  (r : Bool) (w : World) (h : transhumancelaw05_fixed.f k  = some r) :
    Calls Try.prog 13 #[] w fun e w' => e = .returned (.bool r) ∧ Below w.heap.size w w' := by
  have hu25 := Try.underlying25
  have HB := Aside0.mk (Below.refl w.heap.size w)
  have H : ((seed_Mix.f k 0 4294967295).bind fun t136 => (if t136 = 0 then ((seed_Mix.f k 1 4294967295).bind fun t137 => ((transhumanceref05_Mix.f k 1 4294967295).bind fun t138 => (if t137 = t138 then (if t137 = 0 then (some false) else ((seed_Mix.f k (-1) 0).bind fun t139 => (if t139 = 0 then ((seed_Mix.f k 0 4294967296).bind fun t140 => (if t140 = 0 then ((seed_Child.f k 7 3).bind fun t141 => ((transhumanceref05_Child.f k 7 3).bind fun t142 => (if t141 = t142 then ((seed_Child.f k 7 4).bind fun t143 => (if t141 = t143 then (some false) else ((seed_Draw.f k 7 3).bind fun bt144 => ((transhumanceref05_Draw.f k 7 3).bind fun bt146 => (if (bt144.1 == bt146.1 && (bt144.2 == bt146.2)) = true then ((seed_Draw.f k (-1) 0).bind fun bt148 => (if (bt148.1 == 0 && (bt148.2 == 0)) = true then ((seed_Child.f k 7 (-1)).bind fun t150 => (some (t150 == 0))) else (some false))) else (some false)))))) else (some false)))) else (some false))) else (some false)))) else (some false)))) else (some false))) = some r := h
  clear h
  replace H := Option.bind_eq_some_iff.mp H
  obtain ⟨t136, A10, H⟩ := H
  replace H : (if t136 = 0 then ((seed_Mix.f k 1 4294967295).bind fun t137 => ((transhumanceref05_Mix.f k 1 4294967295).bind fun t138 => (if t137 = t138 then (if t137 = 0 then (some false) else ((seed_Mix.f k (-1) 0).bind fun t139 => (if t139 = 0 then ((seed_Mix.f k 0 4294967296).bind fun t140 => (if t140 = 0 then ((seed_Child.f k 7 3).bind fun t141 => ((transhumanceref05_Child.f k 7 3).bind fun t142 => (if t141 = t142 then ((seed_Child.f k 7 4).bind fun t143 => (if t141 = t143 then (some false) else ((seed_Draw.f k 7 3).bind fun bt144 => ((transhumanceref05_Draw.f k 7 3).bind fun bt146 => (if (bt144.1 == bt146.1 && (bt144.2 == bt146.2)) = true then ((seed_Draw.f k (-1) 0).bind fun bt148 => (if (bt148.1 == 0 && (bt148.2 == 0)) = true then ((seed_Child.f k 7 (-1)).bind fun t150 => (some (t150 == 0))) else (some false))) else (some false)))))) else (some false)))) else (some false))) else (some false)))) else (some false)))) else (some false)) = some r := H
  have A1 := Aside0.mk A10
  clear A10
  by_cases c2 : t136 = 0
  · rw [if_pos c2] at H
    have c2b0 : (t136 == 0) = true := beq_iff_eq.mpr c2
    have c2b1 : (t136 != 0) = false := bne_eq_false_iff_eq.mpr c2
    clear c2
    replace H := Option.bind_eq_some_iff.mp H
    obtain ⟨t137, A30, H⟩ := H
    replace H : ((transhumanceref05_Mix.f k 1 4294967295).bind fun t138 => (if t137 = t138 then (if t137 = 0 then (some false) else ((seed_Mix.f k (-1) 0).bind fun t139 => (if t139 = 0 then ((seed_Mix.f k 0 4294967296).bind fun t140 => (if t140 = 0 then ((seed_Child.f k 7 3).bind fun t141 => ((transhumanceref05_Child.f k 7 3).bind fun t142 => (if t141 = t142 then ((seed_Child.f k 7 4).bind fun t143 => (if t141 = t143 then (some false) else ((seed_Draw.f k 7 3).bind fun bt144 => ((transhumanceref05_Draw.f k 7 3).bind fun bt146 => (if (bt144.1 == bt146.1 && (bt144.2 == bt146.2)) = true then ((seed_Draw.f k (-1) 0).bind fun bt148 => (if (bt148.1 == 0 && (bt148.2 == 0)) = true then ((seed_Child.f k 7 (-1)).bind fun t150 => (some (t150 == 0))) else (some false))) else (some false)))))) else (some false)))) else (some false))) else (some false)))) else (some false))) = some r := H
    have A3 := Aside0.mk A30
    clear A30
    replace H := Option.bind_eq_some_iff.mp H
    obtain ⟨t138, A40, H⟩ := H
    replace H : (if t137 = t138 then (if t137 = 0 then (some false) else ((seed_Mix.f k (-1) 0).bind fun t139 => (if t139 = 0 then ((seed_Mix.f k 0 4294967296).bind fun t140 => (if t140 = 0 then ((seed_Child.f k 7 3).bind fun t141 => ((transhumanceref05_Child.f k 7 3).bind fun t142 => (if t141 = t142 then ((seed_Child.f k 7 4).bind fun t143 => (if t141 = t143 then (some false) else ((seed_Draw.f k 7 3).bind fun bt144 => ((transhumanceref05_Draw.f k 7 3).bind fun bt146 => (if (bt144.1 == bt146.1 && (bt144.2 == bt146.2)) = true then ((seed_Draw.f k (-1) 0).bind fun bt148 => (if (bt148.1 == 0 && (bt148.2 == 0)) = true then ((seed_Child.f k 7 (-1)).bind fun t150 => (some (t150 == 0))) else (some false))) else (some false)))))) else (some false)))) else (some false))) else (some false)))) else (some false)) = some r := H
    have A4 := Aside0.mk A40
    clear A40
    by_cases c5 : t137 = t138
    · rw [if_pos c5] at H
      have c5b0 : (t137 == t138) = true := beq_iff_eq.mpr c5
      have c5b1 : (t137 != t138) = false := bne_eq_false_iff_eq.mpr c5
      clear c5
      by_cases c6 : t137 = 0
      · rw [if_pos c6] at H
        have c6b0 : (t137 == 0) = true := beq_iff_eq.mpr c6
        have c6b1 : (t137 != 0) = false := bne_eq_false_iff_eq.mpr c6
        clear c6
        obtain rfl := Option.some.inj H
        go_enter Try.func13, Try.ntmps13
        go_wp2_with (first | ((with_reducible refine gate_callee (f := 14) rfl ?_); refine goesL_ (some 1) rfl rfl Try.func14 (by kernel_rfl) rfl #[.int .i64 0, .int .i64 4294967295] rfl (by (try simp only [List.map_toArray, List.map_cons, List.map_nil]); first | done | rfl | (simp only [List.length_drop, List.length_take]; rfl)) ?_; (with_reducible refine (seed_Mix.calls k 0 4294967295 t136 _ A1.out).mono ?_); rintro e w' ⟨rfl, ⟨nd, rfl⟩⟩; refine ⟨_, rfl, ?_⟩) | (go_at_call 14; (with_reducible refine (seed_Mix.calls k 1 4294967295 t137 _ A3.out).mono ?_); rintro e w' ⟨rfl, ⟨nd, rfl⟩⟩) | (go_at_call 15; (with_reducible refine (transhumanceref05_Mix.calls k 1 4294967295 t138 _ A4.out).mono ?_); rintro e w' ⟨rfl, ⟨nd, rfl⟩⟩))
        go_ret
        exact ⟨by first | rfl | (simp [errW_none, errW_some] <;> rfl) | (simp [*, errW_none, errW_some] <;> rfl), by repeat (first | (with_reducible first | exact HB.out | apply below_alloc | apply pw_below_drewN | apply below_drew1) | exact HB.out)⟩
      · rw [if_neg c6] at H
        have c6b0 : (t137 == 0) = false := beq_eq_false_iff_ne.mpr c6
        have c6b1 : (t137 != 0) = true := bne_iff_ne.mpr c6
        replace H := Option.bind_eq_some_iff.mp H
        obtain ⟨t139, A70, H⟩ := H
        replace H : (if t139 = 0 then ((seed_Mix.f k 0 4294967296).bind fun t140 => (if t140 = 0 then ((seed_Child.f k 7 3).bind fun t141 => ((transhumanceref05_Child.f k 7 3).bind fun t142 => (if t141 = t142 then ((seed_Child.f k 7 4).bind fun t143 => (if t141 = t143 then (some false) else ((seed_Draw.f k 7 3).bind fun bt144 => ((transhumanceref05_Draw.f k 7 3).bind fun bt146 => (if (bt144.1 == bt146.1 && (bt144.2 == bt146.2)) = true then ((seed_Draw.f k (-1) 0).bind fun bt148 => (if (bt148.1 == 0 && (bt148.2 == 0)) = true then ((seed_Child.f k 7 (-1)).bind fun t150 => (some (t150 == 0))) else (some false))) else (some false)))))) else (some false)))) else (some false))) else (some false)) = some r := H
        have A7 := Aside0.mk A70
        clear A70
        by_cases c8 : t139 = 0
        · rw [if_pos c8] at H
          have c8b0 : (t139 == 0) = true := beq_iff_eq.mpr c8
          have c8b1 : (t139 != 0) = false := bne_eq_false_iff_eq.mpr c8
          clear c8
          replace H := Option.bind_eq_some_iff.mp H
          obtain ⟨t140, A90, H⟩ := H
          replace H : (if t140 = 0 then ((seed_Child.f k 7 3).bind fun t141 => ((transhumanceref05_Child.f k 7 3).bind fun t142 => (if t141 = t142 then ((seed_Child.f k 7 4).bind fun t143 => (if t141 = t143 then (some false) else ((seed_Draw.f k 7 3).bind fun bt144 => ((transhumanceref05_Draw.f k 7 3).bind fun bt146 => (if (bt144.1 == bt146.1 && (bt144.2 == bt146.2)) = true then ((seed_Draw.f k (-1) 0).bind fun bt148 => (if (bt148.1 == 0 && (bt148.2 == 0)) = true then ((seed_Child.f k 7 (-1)).bind fun t150 => (some (t150 == 0))) else (some false))) else (some false)))))) else (some false)))) else (some false)) = some r := H
          have A9 := Aside0.mk A90
          clear A90
          by_cases c10 : t140 = 0
          · rw [if_pos c10] at H
            have c10b0 : (t140 == 0) = true := beq_iff_eq.mpr c10
            have c10b1 : (t140 != 0) = false := bne_eq_false_iff_eq.mpr c10
            clear c10
            replace H := Option.bind_eq_some_iff.mp H
            obtain ⟨t141, A110, H⟩ := H
            replace H : ((transhumanceref05_Child.f k 7 3).bind fun t142 => (if t141 = t142 then ((seed_Child.f k 7 4).bind fun t143 => (if t141 = t143 then (some false) else ((seed_Draw.f k 7 3).bind fun bt144 => ((transhumanceref05_Draw.f k 7 3).bind fun bt146 => (if (bt144.1 == bt146.1 && (bt144.2 == bt146.2)) = true then ((seed_Draw.f k (-1) 0).bind fun bt148 => (if (bt148.1 == 0 && (bt148.2 == 0)) = true then ((seed_Child.f k 7 (-1)).bind fun t150 => (some (t150 == 0))) else (some false))) else (some false)))))) else (some false))) = some r := H
            have A11 := Aside0.mk A110
            clear A110
            replace H := Option.bind_eq_some_iff.mp H
            obtain ⟨t142, A120, H⟩ := H
            replace H : (if t141 = t142 then ((seed_Child.f k 7 4).bind fun t143 => (if t141 = t143 then (some false) else ((seed_Draw.f k 7 3).bind fun bt144 => ((transhumanceref05_Draw.f k 7 3).bind fun bt146 => (if (bt144.1 == bt146.1 && (bt144.2 == bt146.2)) = true then ((seed_Draw.f k (-1) 0).bind fun bt148 => (if (bt148.1 == 0 && (bt148.2 == 0)) = true then ((seed_Child.f k 7 (-1)).bind fun t150 => (some (t150 == 0))) else (some false))) else (some false)))))) else (some false)) = some r := H
            have A12 := Aside0.mk A120
            clear A120
            by_cases c13 : t141 = t142
            · rw [if_pos c13] at H
              have c13b0 : (t141 == t142) = true := beq_iff_eq.mpr c13
              have c13b1 : (t141 != t142) = false := bne_eq_false_iff_eq.mpr c13
              clear c13
              replace H := Option.bind_eq_some_iff.mp H
              obtain ⟨t143, A140, H⟩ := H
              replace H : (if t141 = t143 then (some false) else ((seed_Draw.f k 7 3).bind fun bt144 => ((transhumanceref05_Draw.f k 7 3).bind fun bt146 => (if (bt144.1 == bt146.1 && (bt144.2 == bt146.2)) = true then ((seed_Draw.f k (-1) 0).bind fun bt148 => (if (bt148.1 == 0 && (bt148.2 == 0)) = true then ((seed_Child.f k 7 (-1)).bind fun t150 => (some (t150 == 0))) else (some false))) else (some false))))) = some r := H
              have A14 := Aside0.mk A140
              clear A140
              by_cases c15 : t141 = t143
              · rw [if_pos c15] at H
                have c15b0 : (t141 == t143) = true := beq_iff_eq.mpr c15
                have c15b1 : (t141 != t143) = false := bne_eq_false_iff_eq.mpr c15
                clear c15
                obtain rfl := Option.some.inj H
                go_enter Try.func13, Try.ntmps13
                go_wp2_with (first | ((with_reducible refine gate_callee (f := 14) rfl ?_); refine goesL_ (some 1) rfl rfl Try.func14 (by kernel_rfl) rfl #[.int .i64 0, .int .i64 4294967295] rfl (by (try simp only [List.map_toArray, List.map_cons, List.map_nil]); first | done | rfl | (simp only [List.length_drop, List.length_take]; rfl)) ?_; (with_reducible refine (seed_Mix.calls k 0 4294967295 t136 _ A1.out).mono ?_); rintro e w' ⟨rfl, ⟨nd, rfl⟩⟩; refine ⟨_, rfl, ?_⟩) | (go_at_call 14; (with_reducible refine (seed_Mix.calls k 1 4294967295 t137 _ A3.out).mono ?_); rintro e w' ⟨rfl, ⟨nd, rfl⟩⟩) | (go_at_call 15; (with_reducible refine (transhumanceref05_Mix.calls k 1 4294967295 t138 _ A4.out).mono ?_); rintro e w' ⟨rfl, ⟨nd, rfl⟩⟩) | (go_at_call 14; (with_reducible refine (seed_Mix.calls k (-1) 0 t139 _ A7.out).mono ?_); rintro e w' ⟨rfl, ⟨nd, rfl⟩⟩) | (go_at_call 14; (with_reducible refine (seed_Mix.calls k 0 4294967296 t140 _ A9.out).mono ?_); rintro e w' ⟨rfl, ⟨nd, rfl⟩⟩) | (go_at_call 16; (with_reducible refine (seed_Child.calls k 7 3 t141 _ A11.out).mono ?_); rintro e w' ⟨rfl, ⟨nd, rfl⟩⟩) | (go_at_call 17; (with_reducible refine (transhumanceref05_Child.calls k 7 3 t142 _ A12.out).mono ?_); rintro e w' ⟨rfl, ⟨nd, rfl⟩⟩) | (go_at_call 16; (with_reducible refine (seed_Child.calls k 7 4 t143 _ A14.out).mono ?_); rintro e w' ⟨rfl, ⟨nd, rfl⟩⟩))
                go_ret
                exact ⟨by first | rfl | (simp [errW_none, errW_some] <;> rfl) | (simp [*, errW_none, errW_some] <;> rfl), by repeat (first | (with_reducible first | exact HB.out | apply below_alloc | apply pw_below_drewN | apply below_drew1) | exact HB.out)⟩
              · rw [if_neg c15] at H
                have c15b0 : (t141 == t143) = false := beq_eq_false_iff_ne.mpr c15
                have c15b1 : (t141 != t143) = true := bne_iff_ne.mpr c15
                replace H := Option.bind_eq_some_iff.mp H
                obtain ⟨⟨t144, t145⟩, A160, H⟩ := H
                replace H : ((transhumanceref05_Draw.f k 7 3).bind fun bt146 => (if (t144 == bt146.1 && (t145 == bt146.2)) = true then ((seed_Draw.f k (-1) 0).bind fun bt148 => (if (bt148.1 == 0 && (bt148.2 == 0)) = true then ((seed_Child.f k 7 (-1)).bind fun t150 => (some (t150 == 0))) else (some false))) else (some false))) = some r := H
                have A16 := Aside0.mk A160
                clear A160
                replace H := Option.bind_eq_some_iff.mp H
                obtain ⟨⟨t146, t147⟩, A170, H⟩ := H
                replace H : (if (t144 == t146 && (t145 == t147)) = true then ((seed_Draw.f k (-1) 0).bind fun bt148 => (if (bt148.1 == 0 && (bt148.2 == 0)) = true then ((seed_Child.f k 7 (-1)).bind fun t150 => (some (t150 == 0))) else (some false))) else (some false)) = some r := H
                have A17 := Aside0.mk A170
                clear A170
                by_cases c18 : (t144 == t146 && (t145 == t147)) = true
                · rw [if_pos c18] at H
                  have c18b0 : (t144 == t146 && (t145 == t147)) = true := c18
                  (try (have c18b1 : decide (t144 = t146 && (t145 == t147)) = true := by simpa using c18))
                  (try (have c18b2 : (t144 == t146 && (t145 == t147)) = true := by simpa using c18))
                  clear c18
                  replace H := Option.bind_eq_some_iff.mp H
                  obtain ⟨⟨t148, t149⟩, A190, H⟩ := H
                  replace H : (if (t148 == 0 && (t149 == 0)) = true then ((seed_Child.f k 7 (-1)).bind fun t150 => (some (t150 == 0))) else (some false)) = some r := H
                  have A19 := Aside0.mk A190
                  clear A190
                  by_cases c20 : (t148 == 0 && (t149 == 0)) = true
                  · rw [if_pos c20] at H
                    have c20b0 : (t148 == 0 && (t149 == 0)) = true := c20
                    (try (have c20b1 : decide (t148 = 0 && (t149 == 0)) = true := by simpa using c20))
                    (try (have c20b2 : (t148 == 0 && (t149 == 0)) = true := by simpa using c20))
                    clear c20
                    replace H := Option.bind_eq_some_iff.mp H
                    obtain ⟨t150, A210, H⟩ := H
                    replace H : (some (t150 == 0)) = some r := H
                    have A21 := Aside0.mk A210
                    clear A210
                    obtain rfl := Option.some.inj H
                    go_enter Try.func13, Try.ntmps13
                    go_wp2_with (first | ((with_reducible refine gate_callee (f := 14) rfl ?_); refine goesL_ (some 1) rfl rfl Try.func14 (by kernel_rfl) rfl #[.int .i64 0, .int .i64 4294967295] rfl (by (try simp only [List.map_toArray, List.map_cons, List.map_nil]); first | done | rfl | (simp only [List.length_drop, List.length_take]; rfl)) ?_; (with_reducible refine (seed_Mix.calls k 0 4294967295 t136 _ A1.out).mono ?_); rintro e w' ⟨rfl, ⟨nd, rfl⟩⟩; refine ⟨_, rfl, ?_⟩) | (go_at_call 14; (with_reducible refine (seed_Mix.calls k 1 4294967295 t137 _ A3.out).mono ?_); rintro e w' ⟨rfl, ⟨nd, rfl⟩⟩) | (go_at_call 15; (with_reducible refine (transhumanceref05_Mix.calls k 1 4294967295 t138 _ A4.out).mono ?_); rintro e w' ⟨rfl, ⟨nd, rfl⟩⟩) | (go_at_call 14; (with_reducible refine (seed_Mix.calls k (-1) 0 t139 _ A7.out).mono ?_); rintro e w' ⟨rfl, ⟨nd, rfl⟩⟩) | (go_at_call 14; (with_reducible refine (seed_Mix.calls k 0 4294967296 t140 _ A9.out).mono ?_); rintro e w' ⟨rfl, ⟨nd, rfl⟩⟩) | (go_at_call 16; (with_reducible refine (seed_Child.calls k 7 3 t141 _ A11.out).mono ?_); rintro e w' ⟨rfl, ⟨nd, rfl⟩⟩) | (go_at_call 17; (with_reducible refine (transhumanceref05_Child.calls k 7 3 t142 _ A12.out).mono ?_); rintro e w' ⟨rfl, ⟨nd, rfl⟩⟩) | (go_at_call 16; (with_reducible refine (seed_Child.calls k 7 4 t143 _ A14.out).mono ?_); rintro e w' ⟨rfl, ⟨nd, rfl⟩⟩) | (go_at_call 18; (with_reducible refine (seed_Draw.calls k 7 3 t144 t145 _ A16.out).mono ?_); rintro e w22 ⟨rfl, hb⟩; have n0_ := Aside0.mk (below_step (by repeat (first | (with_reducible first | exact HB.out | apply below_alloc | apply pw_below_drewN | apply below_drew1) | exact HB.out)) hb); clear HB; have HB := n0_; clear n0_; (try clear hb); (try clear hb2); (try clear hk); (try clear hi)) | (go_at_call 19; (with_reducible refine (transhumanceref05_Draw.calls k 7 3 t146 t147 _ A17.out).mono ?_); rintro e w23 ⟨rfl, hb⟩; have n0_ := Aside0.mk (below_step (by repeat (first | (with_reducible first | exact HB.out | apply below_alloc | apply pw_below_drewN | apply below_drew1) | exact HB.out)) hb); clear HB; have HB := n0_; clear n0_; (try clear hb); (try clear hb2); (try clear hk); (try clear hi)) | (go_at_call 18; (with_reducible refine (seed_Draw.calls k (-1) 0 t148 t149 _ A19.out).mono ?_); rintro e w24 ⟨rfl, hb⟩; have n0_ := Aside0.mk (below_step (by repeat (first | (with_reducible first | exact HB.out | apply below_alloc | apply pw_below_drewN | apply below_drew1) | exact HB.out)) hb); clear HB; have HB := n0_; clear n0_; (try clear hb); (try clear hb2); (try clear hk); (try clear hi)) | (go_at_call 16; (with_reducible refine (seed_Child.calls k 7 (-1) t150 _ A21.out).mono ?_); rintro e w' ⟨rfl, ⟨nd, rfl⟩⟩))
                    go_ret
                    exact ⟨by first | rfl | (simp [errW_none, errW_some] <;> rfl) | (simp [*, errW_none, errW_some] <;> rfl), by repeat (first | (with_reducible first | exact HB.out | apply below_alloc | apply pw_below_drewN | apply below_drew1) | exact HB.out)⟩
                  · rw [if_neg c20] at H
                    have c20b0 : (t148 == 0 && (t149 == 0)) = false := by simpa using c20
                    (try (have c20b1 : decide (t148 = 0 && (t149 == 0)) = false := by simpa using c20))
                    (try (have c20b2 : (t148 == 0 && (t149 == 0)) = false := by simpa using c20))
                    (try (have c20b3 : ¬ (t148 = 0 && (t149 == 0)) := by simpa using c20))
                    clear c20
                    obtain rfl := Option.some.inj H
                    go_enter Try.func13, Try.ntmps13
                    go_wp2_with (first | ((with_reducible refine gate_callee (f := 14) rfl ?_); refine goesL_ (some 1) rfl rfl Try.func14 (by kernel_rfl) rfl #[.int .i64 0, .int .i64 4294967295] rfl (by (try simp only [List.map_toArray, List.map_cons, List.map_nil]); first | done | rfl | (simp only [List.length_drop, List.length_take]; rfl)) ?_; (with_reducible refine (seed_Mix.calls k 0 4294967295 t136 _ A1.out).mono ?_); rintro e w' ⟨rfl, ⟨nd, rfl⟩⟩; refine ⟨_, rfl, ?_⟩) | (go_at_call 14; (with_reducible refine (seed_Mix.calls k 1 4294967295 t137 _ A3.out).mono ?_); rintro e w' ⟨rfl, ⟨nd, rfl⟩⟩) | (go_at_call 15; (with_reducible refine (transhumanceref05_Mix.calls k 1 4294967295 t138 _ A4.out).mono ?_); rintro e w' ⟨rfl, ⟨nd, rfl⟩⟩) | (go_at_call 14; (with_reducible refine (seed_Mix.calls k (-1) 0 t139 _ A7.out).mono ?_); rintro e w' ⟨rfl, ⟨nd, rfl⟩⟩) | (go_at_call 14; (with_reducible refine (seed_Mix.calls k 0 4294967296 t140 _ A9.out).mono ?_); rintro e w' ⟨rfl, ⟨nd, rfl⟩⟩) | (go_at_call 16; (with_reducible refine (seed_Child.calls k 7 3 t141 _ A11.out).mono ?_); rintro e w' ⟨rfl, ⟨nd, rfl⟩⟩) | (go_at_call 17; (with_reducible refine (transhumanceref05_Child.calls k 7 3 t142 _ A12.out).mono ?_); rintro e w' ⟨rfl, ⟨nd, rfl⟩⟩) | (go_at_call 16; (with_reducible refine (seed_Child.calls k 7 4 t143 _ A14.out).mono ?_); rintro e w' ⟨rfl, ⟨nd, rfl⟩⟩) | (go_at_call 18; (with_reducible refine (seed_Draw.calls k 7 3 t144 t145 _ A16.out).mono ?_); rintro e w25 ⟨rfl, hb⟩; have n0_ := Aside0.mk (below_step (by repeat (first | (with_reducible first | exact HB.out | apply below_alloc | apply pw_below_drewN | apply below_drew1) | exact HB.out)) hb); clear HB; have HB := n0_; clear n0_; (try clear hb); (try clear hb2); (try clear hk); (try clear hi)) | (go_at_call 19; (with_reducible refine (transhumanceref05_Draw.calls k 7 3 t146 t147 _ A17.out).mono ?_); rintro e w26 ⟨rfl, hb⟩; have n0_ := Aside0.mk (below_step (by repeat (first | (with_reducible first | exact HB.out | apply below_alloc | apply pw_below_drewN | apply below_drew1) | exact HB.out)) hb); clear HB; have HB := n0_; clear n0_; (try clear hb); (try clear hb2); (try clear hk); (try clear hi)) | (go_at_call 18; (with_reducible refine (seed_Draw.calls k (-1) 0 t148 t149 _ A19.out).mono ?_); rintro e w27 ⟨rfl, hb⟩; have n0_ := Aside0.mk (below_step (by repeat (first | (with_reducible first | exact HB.out | apply below_alloc | apply pw_below_drewN | apply below_drew1) | exact HB.out)) hb); clear HB; have HB := n0_; clear n0_; (try clear hb); (try clear hb2); (try clear hk); (try clear hi)))
                    go_ret
                    exact ⟨by first | rfl | (simp [errW_none, errW_some] <;> rfl) | (simp [*, errW_none, errW_some] <;> rfl), by repeat (first | (with_reducible first | exact HB.out | apply below_alloc | apply pw_below_drewN | apply below_drew1) | exact HB.out)⟩
                · rw [if_neg c18] at H
                  have c18b0 : (t144 == t146 && (t145 == t147)) = false := by simpa using c18
                  (try (have c18b1 : decide (t144 = t146 && (t145 == t147)) = false := by simpa using c18))
                  (try (have c18b2 : (t144 == t146 && (t145 == t147)) = false := by simpa using c18))
                  (try (have c18b3 : ¬ (t144 = t146 && (t145 == t147)) := by simpa using c18))
                  clear c18
                  obtain rfl := Option.some.inj H
                  go_enter Try.func13, Try.ntmps13
                  go_wp2_with (first | ((with_reducible refine gate_callee (f := 14) rfl ?_); refine goesL_ (some 1) rfl rfl Try.func14 (by kernel_rfl) rfl #[.int .i64 0, .int .i64 4294967295] rfl (by (try simp only [List.map_toArray, List.map_cons, List.map_nil]); first | done | rfl | (simp only [List.length_drop, List.length_take]; rfl)) ?_; (with_reducible refine (seed_Mix.calls k 0 4294967295 t136 _ A1.out).mono ?_); rintro e w' ⟨rfl, ⟨nd, rfl⟩⟩; refine ⟨_, rfl, ?_⟩) | (go_at_call 14; (with_reducible refine (seed_Mix.calls k 1 4294967295 t137 _ A3.out).mono ?_); rintro e w' ⟨rfl, ⟨nd, rfl⟩⟩) | (go_at_call 15; (with_reducible refine (transhumanceref05_Mix.calls k 1 4294967295 t138 _ A4.out).mono ?_); rintro e w' ⟨rfl, ⟨nd, rfl⟩⟩) | (go_at_call 14; (with_reducible refine (seed_Mix.calls k (-1) 0 t139 _ A7.out).mono ?_); rintro e w' ⟨rfl, ⟨nd, rfl⟩⟩) | (go_at_call 14; (with_reducible refine (seed_Mix.calls k 0 4294967296 t140 _ A9.out).mono ?_); rintro e w' ⟨rfl, ⟨nd, rfl⟩⟩) | (go_at_call 16; (with_reducible refine (seed_Child.calls k 7 3 t141 _ A11.out).mono ?_); rintro e w' ⟨rfl, ⟨nd, rfl⟩⟩) | (go_at_call 17; (with_reducible refine (transhumanceref05_Child.calls k 7 3 t142 _ A12.out).mono ?_); rintro e w' ⟨rfl, ⟨nd, rfl⟩⟩) | (go_at_call 16; (with_reducible refine (seed_Child.calls k 7 4 t143 _ A14.out).mono ?_); rintro e w' ⟨rfl, ⟨nd, rfl⟩⟩) | (go_at_call 18; (with_reducible refine (seed_Draw.calls k 7 3 t144 t145 _ A16.out).mono ?_); rintro e w28 ⟨rfl, hb⟩; have n0_ := Aside0.mk (below_step (by repeat (first | (with_reducible first | exact HB.out | apply below_alloc | apply pw_below_drewN | apply below_drew1) | exact HB.out)) hb); clear HB; have HB := n0_; clear n0_; (try clear hb); (try clear hb2); (try clear hk); (try clear hi)) | (go_at_call 19; (with_reducible refine (transhumanceref05_Draw.calls k 7 3 t146 t147 _ A17.out).mono ?_); rintro e w29 ⟨rfl, hb⟩; have n0_ := Aside0.mk (below_step (by repeat (first | (with_reducible first | exact HB.out | apply below_alloc | apply pw_below_drewN | apply below_drew1) | exact HB.out)) hb); clear HB; have HB := n0_; clear n0_; (try clear hb); (try clear hb2); (try clear hk); (try clear hi)))
                  go_ret
                  exact ⟨by first | rfl | (simp [errW_none, errW_some] <;> rfl) | (simp [*, errW_none, errW_some] <;> rfl), by repeat (first | (with_reducible first | exact HB.out | apply below_alloc | apply pw_below_drewN | apply below_drew1) | exact HB.out)⟩
            · rw [if_neg c13] at H
              have c13b0 : (t141 == t142) = false := beq_eq_false_iff_ne.mpr c13
              have c13b1 : (t141 != t142) = true := bne_iff_ne.mpr c13
              obtain rfl := Option.some.inj H
              go_enter Try.func13, Try.ntmps13
              go_wp2_with (first | ((with_reducible refine gate_callee (f := 14) rfl ?_); refine goesL_ (some 1) rfl rfl Try.func14 (by kernel_rfl) rfl #[.int .i64 0, .int .i64 4294967295] rfl (by (try simp only [List.map_toArray, List.map_cons, List.map_nil]); first | done | rfl | (simp only [List.length_drop, List.length_take]; rfl)) ?_; (with_reducible refine (seed_Mix.calls k 0 4294967295 t136 _ A1.out).mono ?_); rintro e w' ⟨rfl, ⟨nd, rfl⟩⟩; refine ⟨_, rfl, ?_⟩) | (go_at_call 14; (with_reducible refine (seed_Mix.calls k 1 4294967295 t137 _ A3.out).mono ?_); rintro e w' ⟨rfl, ⟨nd, rfl⟩⟩) | (go_at_call 15; (with_reducible refine (transhumanceref05_Mix.calls k 1 4294967295 t138 _ A4.out).mono ?_); rintro e w' ⟨rfl, ⟨nd, rfl⟩⟩) | (go_at_call 14; (with_reducible refine (seed_Mix.calls k (-1) 0 t139 _ A7.out).mono ?_); rintro e w' ⟨rfl, ⟨nd, rfl⟩⟩) | (go_at_call 14; (with_reducible refine (seed_Mix.calls k 0 4294967296 t140 _ A9.out).mono ?_); rintro e w' ⟨rfl, ⟨nd, rfl⟩⟩) | (go_at_call 16; (with_reducible refine (seed_Child.calls k 7 3 t141 _ A11.out).mono ?_); rintro e w' ⟨rfl, ⟨nd, rfl⟩⟩) | (go_at_call 17; (with_reducible refine (transhumanceref05_Child.calls k 7 3 t142 _ A12.out).mono ?_); rintro e w' ⟨rfl, ⟨nd, rfl⟩⟩))
              go_ret
              exact ⟨by first | rfl | (simp [errW_none, errW_some] <;> rfl) | (simp [*, errW_none, errW_some] <;> rfl), by repeat (first | (with_reducible first | exact HB.out | apply below_alloc | apply pw_below_drewN | apply below_drew1) | exact HB.out)⟩
          · rw [if_neg c10] at H
            have c10b0 : (t140 == 0) = false := beq_eq_false_iff_ne.mpr c10
            have c10b1 : (t140 != 0) = true := bne_iff_ne.mpr c10
            obtain rfl := Option.some.inj H
            go_enter Try.func13, Try.ntmps13
            go_wp2_with (first | ((with_reducible refine gate_callee (f := 14) rfl ?_); refine goesL_ (some 1) rfl rfl Try.func14 (by kernel_rfl) rfl #[.int .i64 0, .int .i64 4294967295] rfl (by (try simp only [List.map_toArray, List.map_cons, List.map_nil]); first | done | rfl | (simp only [List.length_drop, List.length_take]; rfl)) ?_; (with_reducible refine (seed_Mix.calls k 0 4294967295 t136 _ A1.out).mono ?_); rintro e w' ⟨rfl, ⟨nd, rfl⟩⟩; refine ⟨_, rfl, ?_⟩) | (go_at_call 14; (with_reducible refine (seed_Mix.calls k 1 4294967295 t137 _ A3.out).mono ?_); rintro e w' ⟨rfl, ⟨nd, rfl⟩⟩) | (go_at_call 15; (with_reducible refine (transhumanceref05_Mix.calls k 1 4294967295 t138 _ A4.out).mono ?_); rintro e w' ⟨rfl, ⟨nd, rfl⟩⟩) | (go_at_call 14; (with_reducible refine (seed_Mix.calls k (-1) 0 t139 _ A7.out).mono ?_); rintro e w' ⟨rfl, ⟨nd, rfl⟩⟩) | (go_at_call 14; (with_reducible refine (seed_Mix.calls k 0 4294967296 t140 _ A9.out).mono ?_); rintro e w' ⟨rfl, ⟨nd, rfl⟩⟩))
            go_ret
            exact ⟨by first | rfl | (simp [errW_none, errW_some] <;> rfl) | (simp [*, errW_none, errW_some] <;> rfl), by repeat (first | (with_reducible first | exact HB.out | apply below_alloc | apply pw_below_drewN | apply below_drew1) | exact HB.out)⟩
        · rw [if_neg c8] at H
          have c8b0 : (t139 == 0) = false := beq_eq_false_iff_ne.mpr c8
          have c8b1 : (t139 != 0) = true := bne_iff_ne.mpr c8
          obtain rfl := Option.some.inj H
          go_enter Try.func13, Try.ntmps13
          go_wp2_with (first | ((with_reducible refine gate_callee (f := 14) rfl ?_); refine goesL_ (some 1) rfl rfl Try.func14 (by kernel_rfl) rfl #[.int .i64 0, .int .i64 4294967295] rfl (by (try simp only [List.map_toArray, List.map_cons, List.map_nil]); first | done | rfl | (simp only [List.length_drop, List.length_take]; rfl)) ?_; (with_reducible refine (seed_Mix.calls k 0 4294967295 t136 _ A1.out).mono ?_); rintro e w' ⟨rfl, ⟨nd, rfl⟩⟩; refine ⟨_, rfl, ?_⟩) | (go_at_call 14; (with_reducible refine (seed_Mix.calls k 1 4294967295 t137 _ A3.out).mono ?_); rintro e w' ⟨rfl, ⟨nd, rfl⟩⟩) | (go_at_call 15; (with_reducible refine (transhumanceref05_Mix.calls k 1 4294967295 t138 _ A4.out).mono ?_); rintro e w' ⟨rfl, ⟨nd, rfl⟩⟩) | (go_at_call 14; (with_reducible refine (seed_Mix.calls k (-1) 0 t139 _ A7.out).mono ?_); rintro e w' ⟨rfl, ⟨nd, rfl⟩⟩))
          go_ret
          exact ⟨by first | rfl | (simp [errW_none, errW_some] <;> rfl) | (simp [*, errW_none, errW_some] <;> rfl), by repeat (first | (with_reducible first | exact HB.out | apply below_alloc | apply pw_below_drewN | apply below_drew1) | exact HB.out)⟩
    · rw [if_neg c5] at H
      have c5b0 : (t137 == t138) = false := beq_eq_false_iff_ne.mpr c5
      have c5b1 : (t137 != t138) = true := bne_iff_ne.mpr c5
      obtain rfl := Option.some.inj H
      go_enter Try.func13, Try.ntmps13
      go_wp2_with (first | ((with_reducible refine gate_callee (f := 14) rfl ?_); refine goesL_ (some 1) rfl rfl Try.func14 (by kernel_rfl) rfl #[.int .i64 0, .int .i64 4294967295] rfl (by (try simp only [List.map_toArray, List.map_cons, List.map_nil]); first | done | rfl | (simp only [List.length_drop, List.length_take]; rfl)) ?_; (with_reducible refine (seed_Mix.calls k 0 4294967295 t136 _ A1.out).mono ?_); rintro e w' ⟨rfl, ⟨nd, rfl⟩⟩; refine ⟨_, rfl, ?_⟩) | (go_at_call 14; (with_reducible refine (seed_Mix.calls k 1 4294967295 t137 _ A3.out).mono ?_); rintro e w' ⟨rfl, ⟨nd, rfl⟩⟩) | (go_at_call 15; (with_reducible refine (transhumanceref05_Mix.calls k 1 4294967295 t138 _ A4.out).mono ?_); rintro e w' ⟨rfl, ⟨nd, rfl⟩⟩))
      go_ret
      exact ⟨by first | rfl | (simp [errW_none, errW_some] <;> rfl) | (simp [*, errW_none, errW_some] <;> rfl), by repeat (first | (with_reducible first | exact HB.out | apply below_alloc | apply pw_below_drewN | apply below_drew1) | exact HB.out)⟩
  · rw [if_neg c2] at H
    have c2b0 : (t136 == 0) = false := beq_eq_false_iff_ne.mpr c2
    have c2b1 : (t136 != 0) = true := bne_iff_ne.mpr c2
    obtain rfl := Option.some.inj H
    go_enter Try.func13, Try.ntmps13
    go_wp2_with (first | ((with_reducible refine gate_callee (f := 14) rfl ?_); refine goesL_ (some 1) rfl rfl Try.func14 (by kernel_rfl) rfl #[.int .i64 0, .int .i64 4294967295] rfl (by (try simp only [List.map_toArray, List.map_cons, List.map_nil]); first | done | rfl | (simp only [List.length_drop, List.length_take]; rfl)) ?_; (with_reducible refine (seed_Mix.calls k 0 4294967295 t136 _ A1.out).mono ?_); rintro e w' ⟨rfl, ⟨nd, rfl⟩⟩; refine ⟨_, rfl, ?_⟩))
    go_ret
    exact ⟨by first | rfl | (simp [errW_none, errW_some] <;> rfl) | (simp [*, errW_none, errW_some] <;> rfl), by repeat (first | (with_reducible first | exact HB.out | apply below_alloc | apply pw_below_drewN | apply below_drew1) | exact HB.out)⟩

/-! ### transhumancelaw05_SeedWays: function 6 -/
def transhumancelaw05_SeedWays.j0 : Nat → Int → Int → Int → Bool → Option (Bool)
  | 0, _, _, _, _ => none
  | k + 1, x0, x1, x2, x25 => if x25 = true then ((transhumancelaw05_fixed.f k).bind fun t155 => (some t155)) else ((seed_Mix.f k x0 1).bind fun t156 => ((seed_Mix.f k x0 2).bind fun t157 => (if t156 = t157 then (some false) else ((seed_Child.f k x0 x1).bind fun t158 => ((seed_Child.f k t158 x2).bind fun t159 => ((seed_Child.f k x0 x2).bind fun t160 => ((seed_Child.f k t160 x2).bind fun t161 => (if ((t159 == t161) == (x1 == x2)) = true then ((seed_Mix.f k t156 x2).bind fun t162 => ((seed_Mix.f k t157 x2).bind fun t163 => (some (t162 != t163)))) else (some false)))))))))
def transhumancelaw05_SeedWays.f (k : Nat) (a0 : Int) (a1 : Int) (a2 : Int) : Option (Bool) := (transhumancelaw05_fixed.f k).bind fun t151 => (if t151 = true then ((transhumanceref05_Is.f a0).bind fun t152 => (if t152 = true then ((transhumanceref05_Is.f a1).bind fun t153 => (if t153 = true then ((transhumanceref05_Is.f a2).bind fun t154 => (transhumancelaw05_SeedWays.j0 k a0 a1 a2 (!t154))) else (transhumancelaw05_SeedWays.j0 k a0 a1 a2 true))) else (transhumancelaw05_SeedWays.j0 k a0 a1 a2 true))) else (transhumancelaw05_SeedWays.j0 k a0 a1 a2 true))
theorem transhumancelaw05_SeedWays.mono_l : ∀ k, (∀ y0 y1 y2 y3, LeO (transhumancelaw05_SeedWays.j0 k y0 y1 y2 y3) (transhumancelaw05_SeedWays.j0 (k + 1) y0 y1 y2 y3))
  | 0 => fun _ _ _ _ r h => by simp [transhumancelaw05_SeedWays.j0] at h
  | k + 1 => by
    have ih0 := transhumancelaw05_SeedWays.mono_l k
    · intro y0 y1 y2 y3
      unfold transhumancelaw05_SeedWays.j0
      repeat' first
      | (with_reducible exact ih0 _ _ _ _)
      | (with_reducible exact seed_Child.mono _ _ _)
      | (with_reducible exact seed_Mix.mono _ _ _)
      | (with_reducible exact transhumancelaw05_fixed.mono _)
      | (with_reducible exact LeO.refl _)
      | (with_reducible exact LeO.none _)
      | (with_reducible refine LeO.ite ?_ ?_)
      | (with_reducible refine LeO.bind ?_ (fun _ => ?_))
      | exact ih0 _ _ _ _
      | exact seed_Child.mono _ _ _
      | exact seed_Mix.mono _ _ _
      | exact transhumancelaw05_fixed.mono _
      | exact LeO.none _
      | refine LeO.ite ?_ ?_
      | refine LeO.bind ?_ (fun _ => ?_)
theorem transhumancelaw05_SeedWays.mono : ∀ a0 a1 a2 k, LeO (transhumancelaw05_SeedWays.f k a0 a1 a2) (transhumancelaw05_SeedWays.f (k + 1) a0 a1 a2) := by
  intro a0 a1 a2 k
  have ih0 := transhumancelaw05_SeedWays.mono_l k
  unfold transhumancelaw05_SeedWays.f
  repeat' first
      | (with_reducible exact ih0 _ _ _ _)
      | (with_reducible exact seed_Child.mono _ _ _)
      | (with_reducible exact seed_Mix.mono _ _ _)
      | (with_reducible exact transhumancelaw05_fixed.mono _)
      | (with_reducible exact LeO.refl _)
      | (with_reducible exact LeO.none _)
      | (with_reducible refine LeO.ite ?_ ?_)
      | (with_reducible refine LeO.bind ?_ (fun _ => ?_))
      | exact ih0 _ _ _ _
      | exact seed_Child.mono _ _ _
      | exact seed_Mix.mono _ _ _
      | exact transhumancelaw05_fixed.mono _
      | exact LeO.none _
      | refine LeO.ite ?_ ?_
      | refine LeO.bind ?_ (fun _ => ?_)
set_option maxHeartbeats 8000000 in
set_option maxRecDepth 100000 in
theorem transhumancelaw05_SeedWays.calls (k : Nat) (a0 : Int) (a1 : Int) (a2 : Int) (r : Bool) (w : World) (h : transhumancelaw05_SeedWays.f k a0 a1 a2 = some r) :
    Calls Try.prog 6 #[.int .i64 a0, .int .i64 a1, .int .i64 a2] w fun e w' => e = .returned (.bool r) ∧ Below w.heap.size w w' := by
  have HB := Aside0.mk (Below.refl w.heap.size w)
  have H : ((transhumancelaw05_fixed.f k).bind fun t151 => (if t151 = true then ((transhumanceref05_Is.f a0).bind fun t152 => (if t152 = true then ((transhumanceref05_Is.f a1).bind fun t153 => (if t153 = true then ((transhumanceref05_Is.f a2).bind fun t154 => (transhumancelaw05_SeedWays.j0 k a0 a1 a2 (!t154))) else (transhumancelaw05_SeedWays.j0 k a0 a1 a2 true))) else (transhumancelaw05_SeedWays.j0 k a0 a1 a2 true))) else (transhumancelaw05_SeedWays.j0 k a0 a1 a2 true))) = some r := h
  clear h
  have HC4 := Aside0.mk H
  clear H
  go_enter Try.func6, Try.ntmps6
  go_upto_region 1 with (fail)
  go_cut [25] (fun v25 wc => ∃ (kq : Nat) (x25_3 : Bool), v25 = .bool x25_3 ∧ Aside0 (transhumancelaw05_SeedWays.j0 kq a0 a1 a2 x25_3 = some r) ∧ Aside0 (kq ≤ k) ∧ Aside0 (Below w.heap.size w wc))
  case first =>
    have H := HC4.out
    clear HC4
    replace H := Option.bind_eq_some_iff.mp H
    obtain ⟨t151, A50, H⟩ := H
    replace H : (if t151 = true then ((transhumanceref05_Is.f a0).bind fun t152 => (if t152 = true then ((transhumanceref05_Is.f a1).bind fun t153 => (if t153 = true then ((transhumanceref05_Is.f a2).bind fun t154 => (transhumancelaw05_SeedWays.j0 k a0 a1 a2 (!t154))) else (transhumancelaw05_SeedWays.j0 k a0 a1 a2 true))) else (transhumancelaw05_SeedWays.j0 k a0 a1 a2 true))) else (transhumancelaw05_SeedWays.j0 k a0 a1 a2 true)) = some r := H
    have A5 := Aside0.mk A50
    clear A50
    by_cases c6 : t151 = true
    · subst c6
      have H1 : ((transhumanceref05_Is.f a0).bind fun t152 => (if t152 = true then ((transhumanceref05_Is.f a1).bind fun t153 => (if t153 = true then ((transhumanceref05_Is.f a2).bind fun t154 => (transhumancelaw05_SeedWays.j0 k a0 a1 a2 (!t154))) else (transhumancelaw05_SeedWays.j0 k a0 a1 a2 true))) else (transhumancelaw05_SeedWays.j0 k a0 a1 a2 true))) = some r := by rw [if_pos rfl] at H; exact H
      clear H
      have H := H1
      clear H1
      replace H := Option.bind_eq_some_iff.mp H
      obtain ⟨t152, A70, H⟩ := H
      replace H : (if t152 = true then ((transhumanceref05_Is.f a1).bind fun t153 => (if t153 = true then ((transhumanceref05_Is.f a2).bind fun t154 => (transhumancelaw05_SeedWays.j0 k a0 a1 a2 (!t154))) else (transhumancelaw05_SeedWays.j0 k a0 a1 a2 true))) else (transhumancelaw05_SeedWays.j0 k a0 a1 a2 true)) = some r := H
      have A7 := Aside0.mk A70
      clear A70
      by_cases c8 : t152 = true
      · subst c8
        have H1 : ((transhumanceref05_Is.f a1).bind fun t153 => (if t153 = true then ((transhumanceref05_Is.f a2).bind fun t154 => (transhumancelaw05_SeedWays.j0 k a0 a1 a2 (!t154))) else (transhumancelaw05_SeedWays.j0 k a0 a1 a2 true))) = some r := by rw [if_pos rfl] at H; exact H
        clear H
        have H := H1
        clear H1
        replace H := Option.bind_eq_some_iff.mp H
        obtain ⟨t153, A90, H⟩ := H
        replace H : (if t153 = true then ((transhumanceref05_Is.f a2).bind fun t154 => (transhumancelaw05_SeedWays.j0 k a0 a1 a2 (!t154))) else (transhumancelaw05_SeedWays.j0 k a0 a1 a2 true)) = some r := H
        have A9 := Aside0.mk A90
        clear A90
        by_cases c10 : t153 = true
        · subst c10
          have H1 : ((transhumanceref05_Is.f a2).bind fun t154 => (transhumancelaw05_SeedWays.j0 k a0 a1 a2 (!t154))) = some r := by rw [if_pos rfl] at H; exact H
          clear H
          have H := H1
          clear H1
          replace H := Option.bind_eq_some_iff.mp H
          obtain ⟨t154, A110, H⟩ := H
          replace H : (transhumancelaw05_SeedWays.j0 k a0 a1 a2 (!t154)) = some r := H
          have A11 := Aside0.mk A110
          clear A110
          have H' := Aside0.mk H
          clear H
          go_wp2_with (first | ((with_reducible refine gate_callee (f := 13) rfl ?_); refine goesL_ (some 9) rfl rfl Try.func13 (by kernel_rfl) rfl #[] rfl (by (try simp only [List.map_toArray, List.map_cons, List.map_nil]); first | done | rfl | (simp only [List.length_drop, List.length_take]; rfl)) ?_; (with_reducible refine (transhumancelaw05_fixed.calls k  true _ A5.out).mono ?_); rintro e w12 ⟨rfl, hb⟩; refine ⟨_, rfl, ?_⟩; have n0_ := Aside0.mk (below_step (by repeat (first | (with_reducible first | exact HB.out | apply below_alloc | apply pw_below_drewN | apply below_drew1) | exact HB.out)) hb); clear HB; have HB := n0_; clear n0_; (try clear hb); (try clear hb2); (try clear hk); (try clear hi)) | (go_at_call 20; (with_reducible refine (transhumanceref05_Is.calls a0 true _ A7.out).mono ?_); rintro e w' ⟨rfl, ⟨nd, rfl⟩⟩) | (go_at_call 20; (with_reducible refine (transhumanceref05_Is.calls a1 true _ A9.out).mono ?_); rintro e w' ⟨rfl, ⟨nd, rfl⟩⟩) | (go_at_call 20; (with_reducible refine (transhumanceref05_Is.calls a2 t154 _ A11.out).mono ?_); rintro e w' ⟨rfl, ⟨nd, rfl⟩⟩))
          go_meet
          case rel => exact ⟨_, (!t154), (by first | rfl | (simp; done) | (simp [*]; done)), H', ⟨by first | omega | exact Nat.le_refl _⟩, ⟨by repeat (first | (with_reducible first | exact HB.out | apply below_alloc | apply pw_below_drewN | apply below_drew1) | exact HB.out)⟩⟩
        · replace c10 := Bool.eq_false_iff.mpr c10
          subst c10
          have H1 : (transhumancelaw05_SeedWays.j0 k a0 a1 a2 true) = some r := by rw [if_neg (show ¬ (false = true) by decide)] at H; exact H
          clear H
          have H := H1
          clear H1
          have H' := Aside0.mk H
          clear H
          go_wp2_with (first | ((with_reducible refine gate_callee (f := 13) rfl ?_); refine goesL_ (some 9) rfl rfl Try.func13 (by kernel_rfl) rfl #[] rfl (by (try simp only [List.map_toArray, List.map_cons, List.map_nil]); first | done | rfl | (simp only [List.length_drop, List.length_take]; rfl)) ?_; (with_reducible refine (transhumancelaw05_fixed.calls k  true _ A5.out).mono ?_); rintro e w13 ⟨rfl, hb⟩; refine ⟨_, rfl, ?_⟩; have n0_ := Aside0.mk (below_step (by repeat (first | (with_reducible first | exact HB.out | apply below_alloc | apply pw_below_drewN | apply below_drew1) | exact HB.out)) hb); clear HB; have HB := n0_; clear n0_; (try clear hb); (try clear hb2); (try clear hk); (try clear hi)) | (go_at_call 20; (with_reducible refine (transhumanceref05_Is.calls a0 true _ A7.out).mono ?_); rintro e w' ⟨rfl, ⟨nd, rfl⟩⟩) | (go_at_call 20; (with_reducible refine (transhumanceref05_Is.calls a1 false _ A9.out).mono ?_); rintro e w' ⟨rfl, ⟨nd, rfl⟩⟩))
          go_meet
          case rel => exact ⟨_, (true), (by first | rfl | (simp; done) | (simp [*]; done)), H', ⟨by first | omega | exact Nat.le_refl _⟩, ⟨by repeat (first | (with_reducible first | exact HB.out | apply below_alloc | apply pw_below_drewN | apply below_drew1) | exact HB.out)⟩⟩
      · replace c8 := Bool.eq_false_iff.mpr c8
        subst c8
        have H1 : (transhumancelaw05_SeedWays.j0 k a0 a1 a2 true) = some r := by rw [if_neg (show ¬ (false = true) by decide)] at H; exact H
        clear H
        have H := H1
        clear H1
        have H' := Aside0.mk H
        clear H
        go_wp2_with (first | ((with_reducible refine gate_callee (f := 13) rfl ?_); refine goesL_ (some 9) rfl rfl Try.func13 (by kernel_rfl) rfl #[] rfl (by (try simp only [List.map_toArray, List.map_cons, List.map_nil]); first | done | rfl | (simp only [List.length_drop, List.length_take]; rfl)) ?_; (with_reducible refine (transhumancelaw05_fixed.calls k  true _ A5.out).mono ?_); rintro e w14 ⟨rfl, hb⟩; refine ⟨_, rfl, ?_⟩; have n0_ := Aside0.mk (below_step (by repeat (first | (with_reducible first | exact HB.out | apply below_alloc | apply pw_below_drewN | apply below_drew1) | exact HB.out)) hb); clear HB; have HB := n0_; clear n0_; (try clear hb); (try clear hb2); (try clear hk); (try clear hi)) | (go_at_call 20; (with_reducible refine (transhumanceref05_Is.calls a0 false _ A7.out).mono ?_); rintro e w' ⟨rfl, ⟨nd, rfl⟩⟩))
        go_meet
        case rel => exact ⟨_, (true), (by first | rfl | (simp; done) | (simp [*]; done)), H', ⟨by first | omega | exact Nat.le_refl _⟩, ⟨by repeat (first | (with_reducible first | exact HB.out | apply below_alloc | apply pw_below_drewN | apply below_drew1) | exact HB.out)⟩⟩
    · replace c6 := Bool.eq_false_iff.mpr c6
      subst c6
      have H1 : (transhumancelaw05_SeedWays.j0 k a0 a1 a2 true) = some r := by rw [if_neg (show ¬ (false = true) by decide)] at H; exact H
      clear H
      have H := H1
      clear H1
      have H' := Aside0.mk H
      clear H
      go_wp2_with (first | ((with_reducible refine gate_callee (f := 13) rfl ?_); refine goesL_ (some 9) rfl rfl Try.func13 (by kernel_rfl) rfl #[] rfl (by (try simp only [List.map_toArray, List.map_cons, List.map_nil]); first | done | rfl | (simp only [List.length_drop, List.length_take]; rfl)) ?_; (with_reducible refine (transhumancelaw05_fixed.calls k  false _ A5.out).mono ?_); rintro e w15 ⟨rfl, hb⟩; refine ⟨_, rfl, ?_⟩; have n0_ := Aside0.mk (below_step (by repeat (first | (with_reducible first | exact HB.out | apply below_alloc | apply pw_below_drewN | apply below_drew1) | exact HB.out)) hb); clear HB; have HB := n0_; clear n0_; (try clear hb); (try clear hb2); (try clear hk); (try clear hi)))
      go_meet
      case rel => exact ⟨_, (true), (by first | rfl | (simp; done) | (simp [*]; done)), H', ⟨by first | omega | exact Nat.le_refl _⟩, ⟨by repeat (first | (with_reducible first | exact HB.out | apply below_alloc | apply pw_below_drewN | apply below_drew1) | exact HB.out)⟩⟩
  case rest =>
    clear HC4
    try clear c1
    try clear p2
    try clear c6
    try clear c8
    try clear c10
    try clear c13
    obtain ⟨kq, x25_3, rfl, HA, HJ3, HB⟩ := hcut
    cases kq with
    | zero => exact absurd HA.out (by simp [transhumancelaw05_SeedWays.j0])
    | succ kj3 =>
      have H := HA.out
      clear HA
      simp only [transhumancelaw05_SeedWays.j0] at H
      by_cases c16 : x25_3 = true
      · subst c16
        have H1 : ((transhumancelaw05_fixed.f kj3).bind fun t155 => (some t155)) = some r := by rw [if_pos rfl] at H; exact H
        clear H
        have H := H1
        clear H1
        replace H := Option.bind_eq_some_iff.mp H
        obtain ⟨t155, A170, H⟩ := H
        replace H : (some t155) = some r := H
        have A17 := Aside0.mk A170
        clear A170
        obtain rfl := Option.some.inj H
        go_wp2_with (first | ((with_reducible refine gate_callee (f := 13) rfl ?_); refine goesL_ (some 26) rfl rfl Try.func13 (by kernel_rfl) rfl #[] rfl (by (try simp only [List.map_toArray, List.map_cons, List.map_nil]); first | done | rfl | (simp only [List.length_drop, List.length_take]; rfl)) ?_; (with_reducible refine (transhumancelaw05_fixed.calls kj3  t155 _ A17.out).mono ?_); rintro e w18 ⟨rfl, hb⟩; refine ⟨_, rfl, ?_⟩; have n0_ := Aside0.mk (below_step (by repeat (first | (with_reducible first | exact HB.out | apply below_alloc | apply pw_below_drewN | apply below_drew1) | exact HB.out)) hb); clear HB; have HB := n0_; clear n0_; (try clear hb); (try clear hb2); (try clear hk); (try clear hi)))
        go_ret
        exact ⟨by first | rfl | (simp [errW_none, errW_some] <;> rfl) | (simp [*, errW_none, errW_some] <;> rfl), by repeat (first | (with_reducible first | exact HB.out | apply below_alloc | apply pw_below_drewN | apply below_drew1) | exact HB.out)⟩
      · replace c16 := Bool.eq_false_iff.mpr c16
        subst c16
        have H1 : ((seed_Mix.f kj3 a0 1).bind fun t156 => ((seed_Mix.f kj3 a0 2).bind fun t157 => (if t156 = t157 then (some false) else ((seed_Child.f kj3 a0 a1).bind fun t158 => ((seed_Child.f kj3 t158 a2).bind fun t159 => ((seed_Child.f kj3 a0 a2).bind fun t160 => ((seed_Child.f kj3 t160 a2).bind fun t161 => (if ((t159 == t161) == (a1 == a2)) = true then ((seed_Mix.f kj3 t156 a2).bind fun t162 => ((seed_Mix.f kj3 t157 a2).bind fun t163 => (some (t162 != t163)))) else (some false))))))))) = some r := by rw [if_neg (show ¬ (false = true) by decide)] at H; exact H
        clear H
        have H := H1
        clear H1
        replace H := Option.bind_eq_some_iff.mp H
        obtain ⟨t156, A190, H⟩ := H
        replace H : ((seed_Mix.f kj3 a0 2).bind fun t157 => (if t156 = t157 then (some false) else ((seed_Child.f kj3 a0 a1).bind fun t158 => ((seed_Child.f kj3 t158 a2).bind fun t159 => ((seed_Child.f kj3 a0 a2).bind fun t160 => ((seed_Child.f kj3 t160 a2).bind fun t161 => (if ((t159 == t161) == (a1 == a2)) = true then ((seed_Mix.f kj3 t156 a2).bind fun t162 => ((seed_Mix.f kj3 t157 a2).bind fun t163 => (some (t162 != t163)))) else (some false)))))))) = some r := H
        have A19 := Aside0.mk A190
        clear A190
        replace H := Option.bind_eq_some_iff.mp H
        obtain ⟨t157, A200, H⟩ := H
        replace H : (if t156 = t157 then (some false) else ((seed_Child.f kj3 a0 a1).bind fun t158 => ((seed_Child.f kj3 t158 a2).bind fun t159 => ((seed_Child.f kj3 a0 a2).bind fun t160 => ((seed_Child.f kj3 t160 a2).bind fun t161 => (if ((t159 == t161) == (a1 == a2)) = true then ((seed_Mix.f kj3 t156 a2).bind fun t162 => ((seed_Mix.f kj3 t157 a2).bind fun t163 => (some (t162 != t163)))) else (some false))))))) = some r := H
        have A20 := Aside0.mk A200
        clear A200
        by_cases c21 : t156 = t157
        · rw [if_pos c21] at H
          have c21b0 : (t156 == t157) = true := beq_iff_eq.mpr c21
          have c21b1 : (t156 != t157) = false := bne_eq_false_iff_eq.mpr c21
          clear c21
          obtain rfl := Option.some.inj H
          go_wp2_with (first | ((with_reducible refine gate_callee (f := 14) rfl ?_); refine goesL_ (some 28) rfl rfl Try.func14 (by kernel_rfl) rfl #[.int .i64 a0, .int .i64 1] rfl (by (try simp only [List.map_toArray, List.map_cons, List.map_nil]); first | done | rfl | (simp only [List.length_drop, List.length_take]; rfl)) ?_; (with_reducible refine (seed_Mix.calls kj3 a0 1 t156 _ A19.out).mono ?_); rintro e w' ⟨rfl, ⟨nd, rfl⟩⟩; refine ⟨_, rfl, ?_⟩) | ((with_reducible refine gate_callee (f := 14) rfl ?_); refine goesL_ (some 30) rfl rfl Try.func14 (by kernel_rfl) rfl #[.int .i64 a0, .int .i64 2] rfl (by (try simp only [List.map_toArray, List.map_cons, List.map_nil]); first | done | rfl | (simp only [List.length_drop, List.length_take]; rfl)) ?_; (with_reducible refine (seed_Mix.calls kj3 a0 2 t157 _ A20.out).mono ?_); rintro e w' ⟨rfl, ⟨nd, rfl⟩⟩; refine ⟨_, rfl, ?_⟩))
          go_ret
          exact ⟨by first | rfl | (simp [errW_none, errW_some] <;> rfl) | (simp [*, errW_none, errW_some] <;> rfl), by repeat (first | (with_reducible first | exact HB.out | apply below_alloc | apply pw_below_drewN | apply below_drew1) | exact HB.out)⟩
        · rw [if_neg c21] at H
          have c21b0 : (t156 == t157) = false := beq_eq_false_iff_ne.mpr c21
          have c21b1 : (t156 != t157) = true := bne_iff_ne.mpr c21
          replace H := Option.bind_eq_some_iff.mp H
          obtain ⟨t158, A220, H⟩ := H
          replace H : ((seed_Child.f kj3 t158 a2).bind fun t159 => ((seed_Child.f kj3 a0 a2).bind fun t160 => ((seed_Child.f kj3 t160 a2).bind fun t161 => (if ((t159 == t161) == (a1 == a2)) = true then ((seed_Mix.f kj3 t156 a2).bind fun t162 => ((seed_Mix.f kj3 t157 a2).bind fun t163 => (some (t162 != t163)))) else (some false))))) = some r := H
          have A22 := Aside0.mk A220
          clear A220
          replace H := Option.bind_eq_some_iff.mp H
          obtain ⟨t159, A230, H⟩ := H
          replace H : ((seed_Child.f kj3 a0 a2).bind fun t160 => ((seed_Child.f kj3 t160 a2).bind fun t161 => (if ((t159 == t161) == (a1 == a2)) = true then ((seed_Mix.f kj3 t156 a2).bind fun t162 => ((seed_Mix.f kj3 t157 a2).bind fun t163 => (some (t162 != t163)))) else (some false)))) = some r := H
          have A23 := Aside0.mk A230
          clear A230
          replace H := Option.bind_eq_some_iff.mp H
          obtain ⟨t160, A240, H⟩ := H
          replace H : ((seed_Child.f kj3 t160 a2).bind fun t161 => (if ((t159 == t161) == (a1 == a2)) = true then ((seed_Mix.f kj3 t156 a2).bind fun t162 => ((seed_Mix.f kj3 t157 a2).bind fun t163 => (some (t162 != t163)))) else (some false))) = some r := H
          have A24 := Aside0.mk A240
          clear A240
          replace H := Option.bind_eq_some_iff.mp H
          obtain ⟨t161, A250, H⟩ := H
          replace H : (if ((t159 == t161) == (a1 == a2)) = true then ((seed_Mix.f kj3 t156 a2).bind fun t162 => ((seed_Mix.f kj3 t157 a2).bind fun t163 => (some (t162 != t163)))) else (some false)) = some r := H
          have A25 := Aside0.mk A250
          clear A250
          by_cases c26 : ((t159 == t161) == (a1 == a2)) = true
          · rw [if_pos c26] at H
            have c26b0 : ((t159 == t161) == (a1 == a2)) = true := c26
            (try (have c26b1 : decide ((t159 == t161) = (a1 == a2)) = true := by simpa using c26))
            (try (have c26b2 : ((t159 == t161) == (a1 == a2)) = true := by simpa using c26))
            clear c26
            replace H := Option.bind_eq_some_iff.mp H
            obtain ⟨t162, A270, H⟩ := H
            replace H : ((seed_Mix.f kj3 t157 a2).bind fun t163 => (some (t162 != t163))) = some r := H
            have A27 := Aside0.mk A270
            clear A270
            replace H := Option.bind_eq_some_iff.mp H
            obtain ⟨t163, A280, H⟩ := H
            replace H : (some (t162 != t163)) = some r := H
            have A28 := Aside0.mk A280
            clear A280
            obtain rfl := Option.some.inj H
            go_wp2_with (first | ((with_reducible refine gate_callee (f := 14) rfl ?_); refine goesL_ (some 28) rfl rfl Try.func14 (by kernel_rfl) rfl #[.int .i64 a0, .int .i64 1] rfl (by (try simp only [List.map_toArray, List.map_cons, List.map_nil]); first | done | rfl | (simp only [List.length_drop, List.length_take]; rfl)) ?_; (with_reducible refine (seed_Mix.calls kj3 a0 1 t156 _ A19.out).mono ?_); rintro e w' ⟨rfl, ⟨nd, rfl⟩⟩; refine ⟨_, rfl, ?_⟩) | ((with_reducible refine gate_callee (f := 14) rfl ?_); refine goesL_ (some 30) rfl rfl Try.func14 (by kernel_rfl) rfl #[.int .i64 a0, .int .i64 2] rfl (by (try simp only [List.map_toArray, List.map_cons, List.map_nil]); first | done | rfl | (simp only [List.length_drop, List.length_take]; rfl)) ?_; (with_reducible refine (seed_Mix.calls kj3 a0 2 t157 _ A20.out).mono ?_); rintro e w' ⟨rfl, ⟨nd, rfl⟩⟩; refine ⟨_, rfl, ?_⟩) | (go_at_call 16; (with_reducible refine (seed_Child.calls kj3 a0 a1 t158 _ A22.out).mono ?_); rintro e w' ⟨rfl, ⟨nd, rfl⟩⟩) | (go_at_call 16; (with_reducible refine (seed_Child.calls kj3 t158 a2 t159 _ A23.out).mono ?_); rintro e w' ⟨rfl, ⟨nd, rfl⟩⟩) | (go_at_call 16; (with_reducible refine (seed_Child.calls kj3 a0 a2 t160 _ A24.out).mono ?_); rintro e w' ⟨rfl, ⟨nd, rfl⟩⟩) | (go_at_call 16; (with_reducible refine (seed_Child.calls kj3 t160 a2 t161 _ A25.out).mono ?_); rintro e w' ⟨rfl, ⟨nd, rfl⟩⟩) | (go_at_call 14; (with_reducible refine (seed_Mix.calls kj3 t156 a2 t162 _ A27.out).mono ?_); rintro e w' ⟨rfl, ⟨nd, rfl⟩⟩) | (go_at_call 14; (with_reducible refine (seed_Mix.calls kj3 t157 a2 t163 _ A28.out).mono ?_); rintro e w' ⟨rfl, ⟨nd, rfl⟩⟩))
            go_ret
            exact ⟨by first | rfl | (simp [errW_none, errW_some] <;> rfl) | (simp [*, errW_none, errW_some] <;> rfl), by repeat (first | (with_reducible first | exact HB.out | apply below_alloc | apply pw_below_drewN | apply below_drew1) | exact HB.out)⟩
          · rw [if_neg c26] at H
            have c26b0 : ((t159 == t161) == (a1 == a2)) = false := by simpa using c26
            (try (have c26b1 : decide ((t159 == t161) = (a1 == a2)) = false := by simpa using c26))
            (try (have c26b2 : ((t159 == t161) == (a1 == a2)) = false := by simpa using c26))
            (try (have c26b3 : ¬ ((t159 == t161) = (a1 == a2)) := by simpa using c26))
            clear c26
            obtain rfl := Option.some.inj H
            go_wp2_with (first | ((with_reducible refine gate_callee (f := 14) rfl ?_); refine goesL_ (some 28) rfl rfl Try.func14 (by kernel_rfl) rfl #[.int .i64 a0, .int .i64 1] rfl (by (try simp only [List.map_toArray, List.map_cons, List.map_nil]); first | done | rfl | (simp only [List.length_drop, List.length_take]; rfl)) ?_; (with_reducible refine (seed_Mix.calls kj3 a0 1 t156 _ A19.out).mono ?_); rintro e w' ⟨rfl, ⟨nd, rfl⟩⟩; refine ⟨_, rfl, ?_⟩) | ((with_reducible refine gate_callee (f := 14) rfl ?_); refine goesL_ (some 30) rfl rfl Try.func14 (by kernel_rfl) rfl #[.int .i64 a0, .int .i64 2] rfl (by (try simp only [List.map_toArray, List.map_cons, List.map_nil]); first | done | rfl | (simp only [List.length_drop, List.length_take]; rfl)) ?_; (with_reducible refine (seed_Mix.calls kj3 a0 2 t157 _ A20.out).mono ?_); rintro e w' ⟨rfl, ⟨nd, rfl⟩⟩; refine ⟨_, rfl, ?_⟩) | (go_at_call 16; (with_reducible refine (seed_Child.calls kj3 a0 a1 t158 _ A22.out).mono ?_); rintro e w' ⟨rfl, ⟨nd, rfl⟩⟩) | (go_at_call 16; (with_reducible refine (seed_Child.calls kj3 t158 a2 t159 _ A23.out).mono ?_); rintro e w' ⟨rfl, ⟨nd, rfl⟩⟩) | (go_at_call 16; (with_reducible refine (seed_Child.calls kj3 a0 a2 t160 _ A24.out).mono ?_); rintro e w' ⟨rfl, ⟨nd, rfl⟩⟩) | (go_at_call 16; (with_reducible refine (seed_Child.calls kj3 t160 a2 t161 _ A25.out).mono ?_); rintro e w' ⟨rfl, ⟨nd, rfl⟩⟩))
            go_ret
            exact ⟨by first | rfl | (simp [errW_none, errW_some] <;> rfl) | (simp [*, errW_none, errW_some] <;> rfl), by repeat (first | (with_reducible first | exact HB.out | apply below_alloc | apply pw_below_drewN | apply below_drew1) | exact HB.out)⟩

/-- THE ONE PURE STATEMENT of transhumancelaw05_SeedWays: yours. -/
def transhumancelaw05_SeedWays.Pure : Prop := ∀ (a0 : Int) (a1 : Int) (a2 : Int), (Lit.int .i64 a0).wf = true → (Lit.int .i64 a1).wf = true → (Lit.int .i64 a2).wf = true → ∃ k, transhumancelaw05_SeedWays.f k a0 a1 a2 = some true
theorem transhumancelaw05_SeedWays.walk (P : transhumancelaw05_SeedWays.Pure) (a0 : Int) (a1 : Int) (a2 : Int) (w : World) (w0 : (Lit.int .i64 a0).wf = true) (w1 : (Lit.int .i64 a1).wf = true) (w2 : (Lit.int .i64 a2).wf = true) :
    Calls Try.prog 6 #[.int .i64 a0, .int .i64 a1, .int .i64 a2] w fun e w' => e = .returned (.bool true) ∧ Below w.heap.size w w' := by
  obtain ⟨k, h⟩ := P a0 a1 a2 w0 w1 w2
  refine (transhumancelaw05_SeedWays.calls k a0 a1 a2 true w h).mono ?_
  rintro e w' ⟨rfl, hd⟩
  exact ⟨rfl, hd⟩

end Go.Proofs.Ytlkmomkpdmmjkaa.PSeedWays
