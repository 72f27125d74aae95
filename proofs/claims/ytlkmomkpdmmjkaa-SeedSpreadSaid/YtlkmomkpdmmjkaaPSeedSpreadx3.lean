-- Written by a program of this session (a changed copy of the kit's print).
import Derived.Test.YtlkmomkpdmmjkaaPSeedSpreadx0
import Derived.Test.YtlkmomkpdmmjkaaPSeedSpreadx1
import Derived.Test.YtlkmomkpdmmjkaaPSeedSpreadx2
namespace Go.Proofs.Ytlkmomkpdmmjkaa.PSeedSpread
open Go.RowKit Go.Proofs.YtlkmomkpdmmjkaaW.PrintWords Go.Proofs.YtlkmomkpdmmjkaaW.PrintLast Go.Proofs.YtlkmomkpdmmjkaaW.PrintMore
attribute [local go_sem] max2_int min2_int max_two min_two max_three min_three max_four min_four   -- for this text's walks alone
set_option linter.unusedVariables false
set_option linter.unusedSimpArgs false

attribute [local go_sem high] eqA25
/-! ### transhumancelaw05_fixed: function 13 -/
def transhumancelaw05_fixed.f (k : Nat)  : Option (Bool) := (seed_Mix.f k 0 4294967295).bind fun t136 => (if t136 = 0 then ((seed_Mix.f k 1 4294967295).bind fun t137 => ((transhumanceref05_Mix.f k 1 4294967295).bind fun t138 => (if t137 = t138 then (if t137 = 0 then (some false) else ((seed_Mix.f k (-1) 0).bind fun t139 => (if t139 = 0 then ((seed_Mix.f k 0 4294967296).bind fun t140 => (if t140 = 0 then ((seed_Child.f k 7 3).bind fun t141 => ((transhumanceref05_Child.f k 7 3).bind fun t142 => (if t141 = t142 then ((seed_Child.f k 7 4).bind fun t143 => (if t141 = t143 then (some false) else ((seed_Draw.f k 7 3).bind fun bt144 => ((transhumanceref05_Draw.f k 7 3).bind fun bt146 => (if (bt144.1 == bt146.1 && (bt144.2 == bt146.2)) = true then ((seed_Draw.f k (-1) 0).bind fun bt148 => (if (bt148.1 == 0 && (bt148.2 == 0)) = true then ((seed_Child.f k 7 (-1)).bind fun t150 => (some (t150 == 0))) else (some false))) else (some false)))))) else (some false)))) else (some false))) else (some false)))) else (some false)))) else (some false))
theorem transhumancelaw05_fixed.mono : ∀ k, LeO (transhumancelaw05_fixed.f k ) (transhumancelaw05_fixed.f (k + 1) ) := by
  intro  k
  unfold transhumancelaw05_fixed.f
  repeat' first
      | (with_reducible exact seed_Child.mono _ _ _)
      | (with_reducible exact seed_Draw.mono _ _ _)
      | (with_reducible exact seed_Mix.mono _ _ _)
      | (with_reducible exact transhumanceref05_Child.mono _ _ _)
      | (with_reducible exact transhumanceref05_Draw.mono _ _ _)
      | (with_reducible exact transhumanceref05_Mix.mono _ _ _)
      | (with_reducible exact LeO.refl _)
      | (with_reducible exact LeO.none _)
      | (with_reducible refine LeO.ite ?_ ?_)
      | (with_reducible refine LeO.bind ?_ (fun _ => ?_))
      | exact seed_Child.mono _ _ _
      | exact seed_Draw.mono _ _ _
      | exact seed_Mix.mono _ _ _
      | exact transhumanceref05_Child.mono _ _ _
      | exact transhumanceref05_Draw.mono _ _ _
      | exact transhumanceref05_Mix.mono _ _ _
      | exact LeO.none _
      | refine LeO.ite ?_ ?_
      | refine LeO.bind ?_ (fun _ => ?_)
set_option maxHeartbeats 8000000 in
set_option maxRecDepth 100000 in
theorem transhumancelaw05_fixed.calls (k : Nat)  (r : Bool) (w : World) (h : transhumancelaw05_fixed.f k  = some r) :
    Calls Try.prog 13 #[] w fun e w' => e = .returned (.bool r) ∧ Below w.heap.size w w' := by
  have hu25 := Try.underlying25
  have HB := Aside0.mk (Below.refl w.heap.size w)
  have H : ((seed_Mix.f k 0 4294967295).bind fun t136 => (if t136 = 0 then ((seed_Mix.f k 1 4294967295).bind fun t137 => ((transhumanceref05_Mix.f k 1 4294967295).bind fun t138 => (if t137 = t138 then (if t137 = 0 then (some false) else ((seed_Mix.f k (-1) 0).bind fun t139 => (if t139 = 0 then ((seed_Mix.f k 0 4294967296).bind fun t140 => (if t140 = 0 then ((seed_Child.f k 7 3).bind fun t141 => ((transhumanceref05_Child.f k 7 3).bind fun t142 => (if t141 = t142 then ((seed_Child.f k 7 4).bind fun t143 => (if t141 = t143 then (some false) else ((seed_Draw.f k 7 3).bind fun bt144 => ((transhumanceref05_Draw.f k 7 3).bind fun bt146 => (if (bt144.1 == bt146.1 && (bt144.2 == bt146.2)) = true then ((seed_Draw.f k (-1) 0).bind fun bt148 => (if (bt148.1 == 0 && (bt148.2 == 0)) = true then ((seed_Child.f k 7 (-1)).bind fun t150 => (some (t150 == 0))) else (some false))) else (some false)))))) else (some false)))) else (some false))) else (some false)))) else (some false)))) else (some false))) = some r := h
  clear h
  replace H := Option.bind_eq_some_iff.mp H
  obtain ⟨t136, A10, H⟩ := H
  replace H : (if t136 = 0 then ((seed_Mix.f k 1 4294967295).bind fun t137 => ((transhumanceref05_Mix.f k 1 4294967295).bind fun t138 => (if t137 = t138 then (if t137 = 0 then (some false) else ((seed_Mix.f k (-1) 0).bind fun t139 => (if t139 = 0 then ((seed_Mix.f k 0 4294967296).bind fun t140 => (if t140 = 0 then ((seed_Child.f k 7 3).bind fun t141 => ((transhumanceref05_Child.f k 7 3).bind fun t142 => (if t141 = t142 then ((seed_Child.f k 7 4).bind fun t143 => (if t141 = t143 then (some false) else ((seed_Draw.f k 7 3).bind fun bt144 => ((transhumanceref05_Draw.f k 7 3).bind fun bt146 => (if (bt144.1 == bt146.1 && (bt144.2 == bt146.2)) = true then ((seed_Draw.f k (-1) 0).bind fun bt148 => (if (bt148.1 == 0 && (bt148.2 == 0)) = true then ((seed_Child.f k 7 (-1)).bind fun t150 => (some (t150 == 0))) else (some false))) else (some false)))))) else (some false)))) else (some false))) else (some false)))) else (some false)))) else (some false)) = some r := H
  have A1 := Aside0.mk A10
  clear A10
  by_cases c2 : t136 = 0
  · rw [if_pos c2] at H
    have c2b0 : (t136 == 0) = true := beq_iff_eq.mpr c2
    have c2b1 : (t136 != 0) = false := bne_eq_false_iff_eq.mpr c2
    clear c2
    replace H := Option.bind_eq_some_iff.mp H
    obtain ⟨t137, A30, H⟩ := H
    replace H : ((transhumanceref05_Mix.f k 1 4294967295).bind fun t138 => (if t137 = t138 then (if t137 = 0 then (some false) else ((seed_Mix.f k (-1) 0).bind fun t139 => (if t139 = 0 then ((seed_Mix.f k 0 4294967296).bind fun t140 => (if t140 = 0 then ((seed_Child.f k 7 3).bind fun t141 => ((transhumanceref05_Child.f k 7 3).bind fun t142 => (if t141 = t142 then ((seed_Child.f k 7 4).bind fun t143 => (if t141 = t143 then (some false) else ((seed_Draw.f k 7 3).bind fun bt144 => ((transhumanceref05_Draw.f k 7 3).bind fun bt146 => (if (bt144.1 == bt146.1 && (bt144.2 == bt146.2)) = true then ((seed_Draw.f k (-1) 0).bind fun bt148 => (if (bt148.1 == 0 && (bt148.2 == 0)) = true then ((seed_Child.f k 7 (-1)).bind fun t150 => (some (t150 == 0))) else (some false))) else (some false)))))) else (some false)))) else (some false))) else (some false)))) else (some false))) = some r := H
    have A3 := Aside0.mk A30
    clear A30
    replace H := Option.bind_eq_some_iff.mp H
    obtain ⟨t138, A40, H⟩ := H
    replace H : (if t137 = t138 then (if t137 = 0 then (some false) else ((seed_Mix.f k (-1) 0).bind fun t139 => (if t139 = 0 then ((seed_Mix.f k 0 4294967296).bind fun t140 => (if t140 = 0 then ((seed_Child.f k 7 3).bind fun t141 => ((transhumanceref05_Child.f k 7 3).bind fun t142 => (if t141 = t142 then ((seed_Child.f k 7 4).bind fun t143 => (if t141 = t143 then (some false) else ((seed_Draw.f k 7 3).bind fun bt144 => ((transhumanceref05_Draw.f k 7 3).bind fun bt146 => (if (bt144.1 == bt146.1 && (bt144.2 == bt146.2)) = true then ((seed_Draw.f k (-1) 0).bind fun bt148 => (if (bt148.1 == 0 && (bt148.2 == 0)) = true then ((seed_Child.f k 7 (-1)).bind fun t150 => (some (t150 == 0))) else (some false))) else (some false)))))) else (some false)))) else (some false))) else (some false)))) else (some false)) = some r := H
    have A4 := Aside0.mk A40
    clear A40
    by_cases c5 : t137 = t138
    · rw [if_pos c5] at H
      have c5b0 : (t137 == t138) = true := beq_iff_eq.mpr c5
      have c5b1 : (t137 != t138) = false := bne_eq_false_iff_eq.mpr c5
      clear c5
      by_cases c6 : t137 = 0
      · rw [if_pos c6] at H
        have c6b0 : (t137 == 0) = true := beq_iff_eq.mpr c6
        have c6b1 : (t137 != 0) = false := bne_eq_false_iff_eq.mpr c6
        clear c6
        obtain rfl := Option.some.inj H
        go_enter Try.func13, Try.ntmps13
        go_wp2_with (first | ((with_reducible refine gate_callee (f := 14) rfl ?_); refine goesL_ (some 1) rfl rfl Try.func14 (by kernel_rfl) rfl #[.int .i64 0, .int .i64 4294967295] rfl (by (try simp only [List.map_toArray, List.map_cons, List.map_nil]); first | done | rfl | (simp only [List.length_drop, List.length_take]; rfl)) ?_; (with_reducible refine (seed_Mix.calls k 0 4294967295 t136 _ A1.out).mono ?_); rintro e w' ⟨rfl, ⟨nd, rfl⟩⟩; refine ⟨_, rfl, ?_⟩) | (go_at_call 14; (with_reducible refine (seed_Mix.calls k 1 4294967295 t137 _ A3.out).mono ?_); rintro e w' ⟨rfl, ⟨nd, rfl⟩⟩) | (go_at_call 15; (with_reducible refine (transhumanceref05_Mix.calls k 1 4294967295 t138 _ A4.out).mono ?_); rintro e w' ⟨rfl, ⟨nd, rfl⟩⟩))
        go_ret
        exact ⟨by first | rfl | (simp [errW_none, errW_some] <;> rfl) | (simp [*, errW_none, errW_some] <;> rfl), by repeat (first | (with_reducible first | exact HB.out | apply below_alloc | apply pw_below_drewN | apply below_drew1) | exact HB.out)⟩
      · rw [if_neg c6] at H
        have c6b0 : (t137 == 0) = false := beq_eq_false_iff_ne.mpr c6
        have c6b1 : (t137 != 0) = true := bne_iff_ne.mpr c6
        replace H := Option.bind_eq_some_iff.mp H
        obtain ⟨t139, A70, H⟩ := H
        replace H : (if t139 = 0 then ((seed_Mix.f k 0 4294967296).bind fun t140 => (if t140 = 0 then ((seed_Child.f k 7 3).bind fun t141 => ((transhumanceref05_Child.f k 7 3).bind fun t142 => (if t141 = t142 then ((seed_Child.f k 7 4).bind fun t143 => (if t141 = t143 then (some false) else ((seed_Draw.f k 7 3).bind fun bt144 => ((transhumanceref05_Draw.f k 7 3).bind fun bt146 => (if (bt144.1 == bt146.1 && (bt144.2 == bt146.2)) = true then ((seed_Draw.f k (-1) 0).bind fun bt148 => (if (bt148.1 == 0 && (bt148.2 == 0)) = true then ((seed_Child.f k 7 (-1)).bind fun t150 => (some (t150 == 0))) else (some false))) else (some false)))))) else (some false)))) else (some false))) else (some false)) = some r := H
        have A7 := Aside0.mk A70
        clear A70
        by_cases c8 : t139 = 0
        · rw [if_pos c8] at H
          have c8b0 : (t139 == 0) = true := beq_iff_eq.mpr c8
          have c8b1 : (t139 != 0) = false := bne_eq_false_iff_eq.mpr c8
          clear c8
          replace H := Option.bind_eq_some_iff.mp H
          obtain ⟨t140, A90, H⟩ := H
          replace H : (if t140 = 0 then ((seed_Child.f k 7 3).bind fun t141 => ((transhumanceref05_Child.f k 7 3).bind fun t142 => (if t141 = t142 then ((seed_Child.f k 7 4).bind fun t143 => (if t141 = t143 then (some false) else ((seed_Draw.f k 7 3).bind fun bt144 => ((transhumanceref05_Draw.f k 7 3).bind fun bt146 => (if (bt144.1 == bt146.1 && (bt144.2 == bt146.2)) = true then ((seed_Draw.f k (-1) 0).bind fun bt148 => (if (bt148.1 == 0 && (bt148.2 == 0)) = true then ((seed_Child.f k 7 (-1)).bind fun t150 => (some (t150 == 0))) else (some false))) else (some false)))))) else (some false)))) else (some false)) = some r := H
          have A9 := Aside0.mk A90
          clear A90
          by_cases c10 : t140 = 0
          · rw [if_pos c10] at H
            have c10b0 : (t140 == 0) = true := beq_iff_eq.mpr c10
            have c10b1 : (t140 != 0) = false := bne_eq_false_iff_eq.mpr c10
            clear c10
            replace H := Option.bind_eq_some_iff.mp H
            obtain ⟨t141, A110, H⟩ := H
            replace H : ((transhumanceref05_Child.f k 7 3).bind fun t142 => (if t141 = t142 then ((seed_Child.f k 7 4).bind fun t143 => (if t141 = t143 then (some false) else ((seed_Draw.f k 7 3).bind fun bt144 => ((transhumanceref05_Draw.f k 7 3).bind fun bt146 => (if (bt144.1 == bt146.1 && (bt144.2 == bt146.2)) = true then ((seed_Draw.f k (-1) 0).bind fun bt148 => (if (bt148.1 == 0 && (bt148.2 == 0)) = true then ((seed_Child.f k 7 (-1)).bind fun t150 => (some (t150 == 0))) else (some false))) else (some false)))))) else (some false))) = some r := H
            have A11 := Aside0.mk A110
            clear A110
            replace H := Option.bind_eq_some_iff.mp H
            obtain ⟨t142, A120, H⟩ := H
            replace H : (if t141 = t142 then ((seed_Child.f k 7 4).bind fun t143 => (if t141 = t143 then (some false) else ((seed_Draw.f k 7 3).bind fun bt144 => ((transhumanceref05_Draw.f k 7 3).bind fun bt146 => (if (bt144.1 == bt146.1 && (bt144.2 == bt146.2)) = true then ((seed_Draw.f k (-1) 0).bind fun bt148 => (if (bt148.1 == 0 && (bt148.2 == 0)) = true then ((seed_Child.f k 7 (-1)).bind fun t150 => (some (t150 == 0))) else (some false))) else (some false)))))) else (some false)) = some r := H
            have A12 := Aside0.mk A120
            clear A120
            by_cases c13 : t141 = t142
            · rw [if_pos c13] at H
              have c13b0 : (t141 == t142) = true := beq_iff_eq.mpr c13
              have c13b1 : (t141 != t142) = false := bne_eq_false_iff_eq.mpr c13
              clear c13
              replace H := Option.bind_eq_some_iff.mp H
              obtain ⟨t143, A140, H⟩ := H
              replace H : (if t141 = t143 then (some false) else ((seed_Draw.f k 7 3).bind fun bt144 => ((transhumanceref05_Draw.f k 7 3).bind fun bt146 => (if (bt144.1 == bt146.1 && (bt144.2 == bt146.2)) = true then ((seed_Draw.f k (-1) 0).bind fun bt148 => (if (bt148.1 == 0 && (bt148.2 == 0)) = true then ((seed_Child.f k 7 (-1)).bind fun t150 => (some (t150 == 0))) else (some false))) else (some false))))) = some r := H
              have A14 := Aside0.mk A140
              clear A140
              by_cases c15 : t141 = t143
              · rw [if_pos c15] at H
                have c15b0 : (t141 == t143) = true := beq_iff_eq.mpr c15
                have c15b1 : (t141 != t143) = false := bne_eq_false_iff_eq.mpr c15
                clear c15
                obtain rfl := Option.some.inj H
                go_enter Try.func13, Try.ntmps13
                go_wp2_with (first | ((with_reducible refine gate_callee (f := 14) rfl ?_); refine goesL_ (some 1) rfl rfl Try.func14 (by kernel_rfl) rfl #[.int .i64 0, .int .i64 4294967295] rfl (by (try simp only [List.map_toArray, List.map_cons, List.map_nil]); first | done | rfl | (simp only [List.length_drop, List.length_take]; rfl)) ?_; (with_reducible refine (seed_Mix.calls k 0 4294967295 t136 _ A1.out).mono ?_); rintro e w' ⟨rfl, ⟨nd, rfl⟩⟩; refine ⟨_, rfl, ?_⟩) | (go_at_call 14; (with_reducible refine (seed_Mix.calls k 1 4294967295 t137 _ A3.out).mono ?_); rintro e w' ⟨rfl, ⟨nd, rfl⟩⟩) | (go_at_call 15; (with_reducible refine (transhumanceref05_Mix.calls k 1 4294967295 t138 _ A4.out).mono ?_); rintro e w' ⟨rfl, ⟨nd, rfl⟩⟩) | (go_at_call 14; (with_reducible refine (seed_Mix.calls k (-1) 0 t139 _ A7.out).mono ?_); rintro e w' ⟨rfl, ⟨nd, rfl⟩⟩) | (go_at_call 14; (with_reducible refine (seed_Mix.calls k 0 4294967296 t140 _ A9.out).mono ?_); rintro e w' ⟨rfl, ⟨nd, rfl⟩⟩) | (go_at_call 16; (with_reducible refine (seed_Child.calls k 7 3 t141 _ A11.out).mono ?_); rintro e w' ⟨rfl, ⟨nd, rfl⟩⟩) | (go_at_call 17; (with_reducible refine (transhumanceref05_Child.calls k 7 3 t142 _ A12.out).mono ?_); rintro e w' ⟨rfl, ⟨nd, rfl⟩⟩) | (go_at_call 16; (with_reducible refine (seed_Child.calls k 7 4 t143 _ A14.out).mono ?_); rintro e w' ⟨rfl, ⟨nd, rfl⟩⟩))
                go_ret
                exact ⟨by first | rfl | (simp [errW_none, errW_some] <;> rfl) | (simp [*, errW_none, errW_some] <;> rfl), by repeat (first | (with_reducible first | exact HB.out | apply below_alloc | apply pw_below_drewN | apply below_drew1) | exact HB.out)⟩
              · rw [if_neg c15] at H
                have c15b0 : (t141 == t143) = false := beq_eq_false_iff_ne.mpr c15
                have c15b1 : (t141 != t143) = true := bne_iff_ne.mpr c15
                replace H := Option.bind_eq_some_iff.mp H
                obtain ⟨⟨t144, t145⟩, A160, H⟩ := H
                replace H : ((transhumanceref05_Draw.f k 7 3).bind fun bt146 => (if (t144 == bt146.1 && (t145 == bt146.2)) = true then ((seed_Draw.f k (-1) 0).bind fun bt148 => (if (bt148.1 == 0 && (bt148.2 == 0)) = true then ((seed_Child.f k 7 (-1)).bind fun t150 => (some (t150 == 0))) else (some false))) else (some false))) = some r := H
                have A16 := Aside0.mk A160
                clear A160
                replace H := Option.bind_eq_some_iff.mp H
                obtain ⟨⟨t146, t147⟩, A170, H⟩ := H
                replace H : (if (t144 == t146 && (t145 == t147)) = true then ((seed_Draw.f k (-1) 0).bind fun bt148 => (if (bt148.1 == 0 && (bt148.2 == 0)) = true then ((seed_Child.f k 7 (-1)).bind fun t150 => (some (t150 == 0))) else (some false))) else (some false)) = some r := H
                have A17 := Aside0.mk A170
                clear A170
                by_cases c18 : (t144 == t146 && (t145 == t147)) = true
                · rw [if_pos c18] at H
                  have c18b0 : (t144 == t146 && (t145 == t147)) = true := c18
                  (try (have c18b1 : decide (t144 = t146 && (t145 == t147)) = true := by simpa using c18))
                  (try (have c18b2 : (t144 == t146 && (t145 == t147)) = true := by simpa using c18))
                  clear c18
                  replace H := Option.bind_eq_some_iff.mp H
                  obtain ⟨⟨t148, t149⟩, A190, H⟩ := H
                  replace H : (if (t148 == 0 && (t149 == 0)) = true then ((seed_Child.f k 7 (-1)).bind fun t150 => (some (t150 == 0))) else (some false)) = some r := H
                  have A19 := Aside0.mk A190
                  clear A190
                  by_cases c20 : (t148 == 0 && (t149 == 0)) = true
                  · rw [if_pos c20] at H
                    have c20b0 : (t148 == 0 && (t149 == 0)) = true := c20
                    (try (have c20b1 : decide (t148 = 0 && (t149 == 0)) = true := by simpa using c20))
                    (try (have c20b2 : (t148 == 0 && (t149 == 0)) = true := by simpa using c20))
                    clear c20
                    replace H := Option.bind_eq_some_iff.mp H
                    obtain ⟨t150, A210, H⟩ := H
                    replace H : (some (t150 == 0)) = some r := H
                    have A21 := Aside0.mk A210
                    clear A210
                    obtain rfl := Option.some.inj H
                    go_enter Try.func13, Try.ntmps13
                    go_wp2_with (first | ((with_reducible refine gate_callee (f := 14) rfl ?_); refine goesL_ (some 1) rfl rfl Try.func14 (by kernel_rfl) rfl #[.int .i64 0, .int .i64 4294967295] rfl (by (try simp only [List.map_toArray, List.map_cons, List.map_nil]); first | done | rfl | (simp only [List.length_drop, List.length_take]; rfl)) ?_; (with_reducible refine (seed_Mix.calls k 0 4294967295 t136 _ A1.out).mono ?_); rintro e w' ⟨rfl, ⟨nd, rfl⟩⟩; refine ⟨_, rfl, ?_⟩) | (go_at_call 14; (with_reducible refine (seed_Mix.calls k 1 4294967295 t137 _ A3.out).mono ?_); rintro e w' ⟨rfl, ⟨nd, rfl⟩⟩) | (go_at_call 15; (with_reducible refine (transhumanceref05_Mix.calls k 1 4294967295 t138 _ A4.out).mono ?_); rintro e w' ⟨rfl, ⟨nd, rfl⟩⟩) | (go_at_call 14; (with_reducible refine (seed_Mix.calls k (-1) 0 t139 _ A7.out).mono ?_); rintro e w' ⟨rfl, ⟨nd, rfl⟩⟩) | (go_at_call 14; (with_reducible refine (seed_Mix.calls k 0 4294967296 t140 _ A9.out).mono ?_); rintro e w' ⟨rfl, ⟨nd, rfl⟩⟩) | (go_at_call 16; (with_reducible refine (seed_Child.calls k 7 3 t141 _ A11.out).mono ?_); rintro e w' ⟨rfl, ⟨nd, rfl⟩⟩) | (go_at_call 17; (with_reducible refine (transhumanceref05_Child.calls k 7 3 t142 _ A12.out).mono ?_); rintro e w' ⟨rfl, ⟨nd, rfl⟩⟩) | (go_at_call 16; (with_reducible refine (seed_Child.calls k 7 4 t143 _ A14.out).mono ?_); rintro e w' ⟨rfl, ⟨nd, rfl⟩⟩) | (go_at_call 18; (with_reducible refine (seed_Draw.calls k 7 3 t144 t145 _ A16.out).mono ?_); rintro e w22 ⟨rfl, hb⟩; have n0_ := Aside0.mk (below_step (by repeat (first | (with_reducible first | exact HB.out | apply below_alloc | apply pw_below_drewN | apply below_drew1) | exact HB.out)) hb); clear HB; have HB := n0_; clear n0_; (try clear hb); (try clear hb2); (try clear hk); (try clear hi)) | (go_at_call 19; (with_reducible refine (transhumanceref05_Draw.calls k 7 3 t146 t147 _ A17.out).mono ?_); rintro e w23 ⟨rfl, hb⟩; have n0_ := Aside0.mk (below_step (by repeat (first | (with_reducible first | exact HB.out | apply below_alloc | apply pw_below_drewN | apply below_drew1) | exact HB.out)) hb); clear HB; have HB := n0_; clear n0_; (try clear hb); (try clear hb2); (try clear hk); (try clear hi)) | (go_at_call 18; (with_reducible refine (seed_Draw.calls k (-1) 0 t148 t149 _ A19.out).mono ?_); rintro e w24 ⟨rfl, hb⟩; have n0_ := Aside0.mk (below_step (by repeat (first | (with_reducible first | exact HB.out | apply below_alloc | apply pw_below_drewN | apply below_drew1) | exact HB.out)) hb); clear HB; have HB := n0_; clear n0_; (try clear hb); (try clear hb2); (try clear hk); (try clear hi)) | (go_at_call 16; (with_reducible refine (seed_Child.calls k 7 (-1) t150 _ A21.out).mono ?_); rintro e w' ⟨rfl, ⟨nd, rfl⟩⟩))
                    go_ret
                    exact ⟨by first | rfl | (simp [errW_none, errW_some] <;> rfl) | (simp [*, errW_none, errW_some] <;> rfl), by repeat (first | (with_reducible first | exact HB.out | apply below_alloc | apply pw_below_drewN | apply below_drew1) | exact HB.out)⟩
                  · rw [if_neg c20] at H
                    have c20b0 : (t148 == 0 && (t149 == 0)) = false := by simpa using c20
                    (try (have c20b1 : decide (t148 = 0 && (t149 == 0)) = false := by simpa using c20))
                    (try (have c20b2 : (t148 == 0 && (t149 == 0)) = false := by simpa using c20))
                    (try (have c20b3 : ¬ (t148 = 0 && (t149 == 0)) := by simpa using c20))
                    clear c20
                    obtain rfl := Option.some.inj H
                    go_enter Try.func13, Try.ntmps13
                    go_wp2_with (first | ((with_reducible refine gate_callee (f := 14) rfl ?_); refine goesL_ (some 1) rfl rfl Try.func14 (by kernel_rfl) rfl #[.int .i64 0, .int .i64 4294967295] rfl (by (try simp only [List.map_toArray, List.map_cons, List.map_nil]); first | done | rfl | (simp only [List.length_drop, List.length_take]; rfl)) ?_; (with_reducible refine (seed_Mix.calls k 0 4294967295 t136 _ A1.out).mono ?_); rintro e w' ⟨rfl, ⟨nd, rfl⟩⟩; refine ⟨_, rfl, ?_⟩) | (go_at_call 14; (with_reducible refine (seed_Mix.calls k 1 4294967295 t137 _ A3.out).mono ?_); rintro e w' ⟨rfl, ⟨nd, rfl⟩⟩) | (go_at_call 15; (with_reducible refine (transhumanceref05_Mix.calls k 1 4294967295 t138 _ A4.out).mono ?_); rintro e w' ⟨rfl, ⟨nd, rfl⟩⟩) | (go_at_call 14; (with_reducible refine (seed_Mix.calls k (-1) 0 t139 _ A7.out).mono ?_); rintro e w' ⟨rfl, ⟨nd, rfl⟩⟩) | (go_at_call 14; (with_reducible refine (seed_Mix.calls k 0 4294967296 t140 _ A9.out).mono ?_); rintro e w' ⟨rfl, ⟨nd, rfl⟩⟩) | (go_at_call 16; (with_reducible refine (seed_Child.calls k 7 3 t141 _ A11.out).mono ?_); rintro e w' ⟨rfl, ⟨nd, rfl⟩⟩) | (go_at_call 17; (with_reducible refine (transhumanceref05_Child.calls k 7 3 t142 _ A12.out).mono ?_); rintro e w' ⟨rfl, ⟨nd, rfl⟩⟩) | (go_at_call 16; (with_reducible refine (seed_Child.calls k 7 4 t143 _ A14.out).mono ?_); rintro e w' ⟨rfl, ⟨nd, rfl⟩⟩) | (go_at_call 18; (with_reducible refine (seed_Draw.calls k 7 3 t144 t145 _ A16.out).mono ?_); rintro e w25 ⟨rfl, hb⟩; have n0_ := Aside0.mk (below_step (by repeat (first | (with_reducible first | exact HB.out | apply below_alloc | apply pw_below_drewN | apply below_drew1) | exact HB.out)) hb); clear HB; have HB := n0_; clear n0_; (try clear hb); (try clear hb2); (try clear hk); (try clear hi)) | (go_at_call 19; (with_reducible refine (transhumanceref05_Draw.calls k 7 3 t146 t147 _ A17.out).mono ?_); rintro e w26 ⟨rfl, hb⟩; have n0_ := Aside0.mk (below_step (by repeat (first | (with_reducible first | exact HB.out | apply below_alloc | apply pw_below_drewN | apply below_drew1) | exact HB.out)) hb); clear HB; have HB := n0_; clear n0_; (try clear hb); (try clear hb2); (try clear hk); (try clear hi)) | (go_at_call 18; (with_reducible refine (seed_Draw.calls k (-1) 0 t148 t149 _ A19.out).mono ?_); rintro e w27 ⟨rfl, hb⟩; have n0_ := Aside0.mk (below_step (by repeat (first | (with_reducible first | exact HB.out | apply below_alloc | apply pw_below_drewN | apply below_drew1) | exact HB.out)) hb); clear HB; have HB := n0_; clear n0_; (try clear hb); (try clear hb2); (try clear hk); (try clear hi)))
                    go_ret
                    exact ⟨by first | rfl | (simp [errW_none, errW_some] <;> rfl) | (simp [*, errW_none, errW_some] <;> rfl), by repeat (first | (with_reducible first | exact HB.out | apply below_alloc | apply pw_below_drewN | apply below_drew1) | exact HB.out)⟩
                · rw [if_neg c18] at H
                  have c18b0 : (t144 == t146 && (t145 == t147)) = false := by simpa using c18
                  (try (have c18b1 : decide (t144 = t146 && (t145 == t147)) = false := by simpa using c18))
                  (try (have c18b2 : (t144 == t146 && (t145 == t147)) = false := by simpa using c18))
                  (try (have c18b3 : ¬ (t144 = t146 && (t145 == t147)) := by simpa using c18))
                  clear c18
                  obtain rfl := Option.some.inj H
                  go_enter Try.func13, Try.ntmps13
                  go_wp2_with (first | ((with_reducible refine gate_callee (f := 14) rfl ?_); refine goesL_ (some 1) rfl rfl Try.func14 (by kernel_rfl) rfl #[.int .i64 0, .int .i64 4294967295] rfl (by (try simp only [List.map_toArray, List.map_cons, List.map_nil]); first | done | rfl | (simp only [List.length_drop, List.length_take]; rfl)) ?_; (with_reducible refine (seed_Mix.calls k 0 4294967295 t136 _ A1.out).mono ?_); rintro e w' ⟨rfl, ⟨nd, rfl⟩⟩; refine ⟨_, rfl, ?_⟩) | (go_at_call 14; (with_reducible refine (seed_Mix.calls k 1 4294967295 t137 _ A3.out).mono ?_); rintro e w' ⟨rfl, ⟨nd, rfl⟩⟩) | (go_at_call 15; (with_reducible refine (transhumanceref05_Mix.calls k 1 4294967295 t138 _ A4.out).mono ?_); rintro e w' ⟨rfl, ⟨nd, rfl⟩⟩) | (go_at_call 14; (with_reducible refine (seed_Mix.calls k (-1) 0 t139 _ A7.out).mono ?_); rintro e w' ⟨rfl, ⟨nd, rfl⟩⟩) | (go_at_call 14; (with_reducible refine (seed_Mix.calls k 0 4294967296 t140 _ A9.out).mono ?_); rintro e w' ⟨rfl, ⟨nd, rfl⟩⟩) | (go_at_call 16; (with_reducible refine (seed_Child.calls k 7 3 t141 _ A11.out).mono ?_); rintro e w' ⟨rfl, ⟨nd, rfl⟩⟩) | (go_at_call 17; (with_reducible refine (transhumanceref05_Child.calls k 7 3 t142 _ A12.out).mono ?_); rintro e w' ⟨rfl, ⟨nd, rfl⟩⟩) | (go_at_call 16; (with_reducible refine (seed_Child.calls k 7 4 t143 _ A14.out).mono ?_); rintro e w' ⟨rfl, ⟨nd, rfl⟩⟩) | (go_at_call 18; (with_reducible refine (seed_Draw.calls k 7 3 t144 t145 _ A16.out).mono ?_); rintro e w28 ⟨rfl, hb⟩; have n0_ := Aside0.mk (below_step (by repeat (first | (with_reducible first | exact HB.out | apply below_alloc | apply pw_below_drewN | apply below_drew1) | exact HB.out)) hb); clear HB; have HB := n0_; clear n0_; (try clear hb); (try clear hb2); (try clear hk); (try clear hi)) | (go_at_call 19; (with_reducible refine (transhumanceref05_Draw.calls k 7 3 t146 t147 _ A17.out).mono ?_); rintro e w29 ⟨rfl, hb⟩; have n0_ := Aside0.mk (below_step (by repeat (first | (with_reducible first | exact HB.out | apply below_alloc | apply pw_below_drewN | apply below_drew1) | exact HB.out)) hb); clear HB; have HB := n0_; clear n0_; (try clear hb); (try clear hb2); (try clear hk); (try clear hi)))
                  go_ret
                  exact ⟨by first | rfl | (simp [errW_none, errW_some] <;> rfl) | (simp [*, errW_none, errW_some] <;> rfl), by repeat (first | (with_reducible first | exact HB.out | apply below_alloc | apply pw_below_drewN | apply below_drew1) | exact HB.out)⟩
            · rw [if_neg c13] at H
              have c13b0 : (t141 == t142) = false := beq_eq_false_iff_ne.mpr c13
              have c13b1 : (t141 != t142) = true := bne_iff_ne.mpr c13
              obtain rfl := Option.some.inj H
              go_enter Try.func13, Try.ntmps13
              go_wp2_with (first | ((with_reducible refine gate_callee (f := 14) rfl ?_); refine goesL_ (some 1) rfl rfl Try.func14 (by kernel_rfl) rfl #[.int .i64 0, .int .i64 4294967295] rfl (by (try simp only [List.map_toArray, List.map_cons, List.map_nil]); first | done | rfl | (simp only [List.length_drop, List.length_take]; rfl)) ?_; (with_reducible refine (seed_Mix.calls k 0 4294967295 t136 _ A1.out).mono ?_); rintro e w' ⟨rfl, ⟨nd, rfl⟩⟩; refine ⟨_, rfl, ?_⟩) | (go_at_call 14; (with_reducible refine (seed_Mix.calls k 1 4294967295 t137 _ A3.out).mono ?_); rintro e w' ⟨rfl, ⟨nd, rfl⟩⟩) | (go_at_call 15; (with_reducible refine (transhumanceref05_Mix.calls k 1 4294967295 t138 _ A4.out).mono ?_); rintro e w' ⟨rfl, ⟨nd, rfl⟩⟩) | (go_at_call 14; (with_reducible refine (seed_Mix.calls k (-1) 0 t139 _ A7.out).mono ?_); rintro e w' ⟨rfl, ⟨nd, rfl⟩⟩) | (go_at_call 14; (with_reducible refine (seed_Mix.calls k 0 4294967296 t140 _ A9.out).mono ?_); rintro e w' ⟨rfl, ⟨nd, rfl⟩⟩) | (go_at_call 16; (with_reducible refine (seed_Child.calls k 7 3 t141 _ A11.out).mono ?_); rintro e w' ⟨rfl, ⟨nd, rfl⟩⟩) | (go_at_call 17; (with_reducible refine (transhumanceref05_Child.calls k 7 3 t142 _ A12.out).mono ?_); rintro e w' ⟨rfl, ⟨nd, rfl⟩⟩))
              go_ret
              exact ⟨by first | rfl | (simp [errW_none, errW_some] <;> rfl) | (simp [*, errW_none, errW_some] <;> rfl), by repeat (first | (with_reducible first | exact HB.out | apply below_alloc | apply pw_below_drewN | apply below_drew1) | exact HB.out)⟩
          · rw [if_neg c10] at H
            have c10b0 : (t140 == 0) = false := beq_eq_false_iff_ne.mpr c10
            have c10b1 : (t140 != 0) = true := bne_iff_ne.mpr c10
            obtain rfl := Option.some.inj H
            go_enter Try.func13, Try.ntmps13
            go_wp2_with (first | ((with_reducible refine gate_callee (f := 14) rfl ?_); refine goesL_ (some 1) rfl rfl Try.func14 (by kernel_rfl) rfl #[.int .i64 0, .int .i64 4294967295] rfl (by (try simp only [List.map_toArray, List.map_cons, List.map_nil]); first | done | rfl | (simp only [List.length_drop, List.length_take]; rfl)) ?_; (with_reducible refine (seed_Mix.calls k 0 4294967295 t136 _ A1.out).mono ?_); rintro e w' ⟨rfl, ⟨nd, rfl⟩⟩; refine ⟨_, rfl, ?_⟩) | (go_at_call 14; (with_reducible refine (seed_Mix.calls k 1 4294967295 t137 _ A3.out).mono ?_); rintro e w' ⟨rfl, ⟨nd, rfl⟩⟩) | (go_at_call 15; (with_reducible refine (transhumanceref05_Mix.calls k 1 4294967295 t138 _ A4.out).mono ?_); rintro e w' ⟨rfl, ⟨nd, rfl⟩⟩) | (go_at_call 14; (with_reducible refine (seed_Mix.calls k (-1) 0 t139 _ A7.out).mono ?_); rintro e w' ⟨rfl, ⟨nd, rfl⟩⟩) | (go_at_call 14; (with_reducible refine (seed_Mix.calls k 0 4294967296 t140 _ A9.out).mono ?_); rintro e w' ⟨rfl, ⟨nd, rfl⟩⟩))
            go_ret
            exact ⟨by first | rfl | (simp [errW_none, errW_some] <;> rfl) | (simp [*, errW_none, errW_some] <;> rfl), by repeat (first | (with_reducible first | exact HB.out | apply below_alloc | apply pw_below_drewN | apply below_drew1) | exact HB.out)⟩
        · rw [if_neg c8] at H
          have c8b0 : (t139 == 0) = false := beq_eq_false_iff_ne.mpr c8
          have c8b1 : (t139 != 0) = true := bne_iff_ne.mpr c8
          obtain rfl := Option.some.inj H
          go_enter Try.func13, Try.ntmps13
          go_wp2_with (first | ((with_reducible refine gate_callee (f := 14) rfl ?_); refine goesL_ (some 1) rfl rfl Try.func14 (by kernel_rfl) rfl #[.int .i64 0, .int .i64 4294967295] rfl (by (try simp only [List.map_toArray, List.map_cons, List.map_nil]); first | done | rfl | (simp only [List.length_drop, List.length_take]; rfl)) ?_; (with_reducible refine (seed_Mix.calls k 0 4294967295 t136 _ A1.out).mono ?_); rintro e w' ⟨rfl, ⟨nd, rfl⟩⟩; refine ⟨_, rfl, ?_⟩) | (go_at_call 14; (with_reducible refine (seed_Mix.calls k 1 4294967295 t137 _ A3.out).mono ?_); rintro e w' ⟨rfl, ⟨nd, rfl⟩⟩) | (go_at_call 15; (with_reducible refine (transhumanceref05_Mix.calls k 1 4294967295 t138 _ A4.out).mono ?_); rintro e w' ⟨rfl, ⟨nd, rfl⟩⟩) | (go_at_call 14; (with_reducible refine (seed_Mix.calls k (-1) 0 t139 _ A7.out).mono ?_); rintro e w' ⟨rfl, ⟨nd, rfl⟩⟩))
          go_ret
          exact ⟨by first | rfl | (simp [errW_none, errW_some] <;> rfl) | (simp [*, errW_none, errW_some] <;> rfl), by repeat (first | (with_reducible first | exact HB.out | apply below_alloc | apply pw_below_drewN | apply below_drew1) | exact HB.out)⟩
    · rw [if_neg c5] at H
      have c5b0 : (t137 == t138) = false := beq_eq_false_iff_ne.mpr c5
      have c5b1 : (t137 != t138) = true := bne_iff_ne.mpr c5
      obtain rfl := Option.some.inj H
      go_enter Try.func13, Try.ntmps13
      go_wp2_with (first | ((with_reducible refine gate_callee (f := 14) rfl ?_); refine goesL_ (some 1) rfl rfl Try.func14 (by kernel_rfl) rfl #[.int .i64 0, .int .i64 4294967295] rfl (by (try simp only [List.map_toArray, List.map_cons, List.map_nil]); first | done | rfl | (simp only [List.length_drop, List.length_take]; rfl)) ?_; (with_reducible refine (seed_Mix.calls k 0 4294967295 t136 _ A1.out).mono ?_); rintro e w' ⟨rfl, ⟨nd, rfl⟩⟩; refine ⟨_, rfl, ?_⟩) | (go_at_call 14; (with_reducible refine (seed_Mix.calls k 1 4294967295 t137 _ A3.out).mono ?_); rintro e w' ⟨rfl, ⟨nd, rfl⟩⟩) | (go_at_call 15; (with_reducible refine (transhumanceref05_Mix.calls k 1 4294967295 t138 _ A4.out).mono ?_); rintro e w' ⟨rfl, ⟨nd, rfl⟩⟩))
      go_ret
      exact ⟨by first | rfl | (simp [errW_none, errW_some] <;> rfl) | (simp [*, errW_none, errW_some] <;> rfl), by repeat (first | (with_reducible first | exact HB.out | apply below_alloc | apply pw_below_drewN | apply below_drew1) | exact HB.out)⟩
  · rw [if_neg c2] at H
    have c2b0 : (t136 == 0) = false := beq_eq_false_iff_ne.mpr c2
    have c2b1 : (t136 != 0) = true := bne_iff_ne.mpr c2
    obtain rfl := Option.some.inj H
    go_enter Try.func13, Try.ntmps13
    go_wp2_with (first | ((with_reducible refine gate_callee (f := 14) rfl ?_); refine goesL_ (some 1) rfl rfl Try.func14 (by kernel_rfl) rfl #[.int .i64 0, .int .i64 4294967295] rfl (by (try simp only [List.map_toArray, List.map_cons, List.map_nil]); first | done | rfl | (simp only [List.length_drop, List.length_take]; rfl)) ?_; (with_reducible refine (seed_Mix.calls k 0 4294967295 t136 _ A1.out).mono ?_); rintro e w' ⟨rfl, ⟨nd, rfl⟩⟩; refine ⟨_, rfl, ?_⟩))
    go_ret
    exact ⟨by first | rfl | (simp [errW_none, errW_some] <;> rfl) | (simp [*, errW_none, errW_some] <;> rfl), by repeat (first | (with_reducible first | exact HB.out | apply below_alloc | apply pw_below_drewN | apply below_drew1) | exact HB.out)⟩

/-! ### transhumancelaw05_SeedSpread: function 7 -/
mutual
def transhumancelaw05_SeedSpread.j0 : Nat → Int → Int → Bool → Option (Bool)
  | 0, _, _, _ => none
  | k + 1, x0, x1, x24 => if x24 = true then ((transhumancelaw05_fixed.f k).bind fun t153 => (some t153)) else (transhumancelaw05_SeedSpread.l0 k x0 x1 (([] : List Int)) 0)
def transhumancelaw05_SeedSpread.l0 : Nat → Int → Int → List Int → Int → Option (Bool)
  | 0, _, _, _, _ => none
  | k + 1, x0, x1, x5, x6 => if x6 < x1 then ((seed_Child.f k x0 x6).bind fun t157 => ((seed_Mix.f k x0 x6).bind fun t158 => (transhumancelaw05_SeedSpread.l1 k x0 x1 x5 x6 t157 t158 0))) else (some true)
def transhumancelaw05_SeedSpread.l1 : Nat → Int → Int → List Int → Int → Int → Int → Int → Option (Bool)
  | 0, _, _, _, _, _, _, _ => none
  | k + 1, x0, x1, x5, x6, x7, x8, x9 => if x9 < (x5.length : Int) then (if 0 ≤ x9 then (if (rd x5 x9) = x7 then (some false) else (if 0 ≤ (wrap64 (x9 + 1)) then (if (wrap64 (x9 + 1)) < (x5.length : Int) then (if (rd x5 (wrap64 (x9 + 1))) = x8 then (some false) else (transhumancelaw05_SeedSpread.l1 k x0 x1 x5 x6 x7 x8 (wrap64 (x9 + 2)))) else (none)) else (none))) else (none)) else ((some (([x7, x8] : List Int) : List Int)).bind fun y161 => (if x5.length + y161.length < 17592186044416 then (transhumancelaw05_SeedSpread.l0 k x0 x1 (x5 ++ y161) (wrap64 (x6 + 1))) else (none)))
end
def transhumancelaw05_SeedSpread.f (k : Nat) (a0 : Int) (a1 : Int) : Option (Bool) := (transhumancelaw05_fixed.f k).bind fun t151 => (if t151 = true then ((transhumanceref05_Is.f a0).bind fun t152 => (if t152 = true then (if a1 < 0 then (transhumancelaw05_SeedSpread.j0 k a0 a1 true) else (transhumancelaw05_SeedSpread.j0 k a0 a1 (decide (a1 > 60)))) else (transhumancelaw05_SeedSpread.j0 k a0 a1 true))) else (transhumancelaw05_SeedSpread.j0 k a0 a1 true))
theorem transhumancelaw05_SeedSpread.mono_l : ∀ k, (∀ y0 y1 y2, LeO (transhumancelaw05_SeedSpread.j0 k y0 y1 y2) (transhumancelaw05_SeedSpread.j0 (k + 1) y0 y1 y2)) ∧ (∀ y0 y1 y2 y3, LeO (transhumancelaw05_SeedSpread.l0 k y0 y1 y2 y3) (transhumancelaw05_SeedSpread.l0 (k + 1) y0 y1 y2 y3)) ∧ (∀ y0 y1 y2 y3 y4 y5 y6, LeO (transhumancelaw05_SeedSpread.l1 k y0 y1 y2 y3 y4 y5 y6) (transhumancelaw05_SeedSpread.l1 (k + 1) y0 y1 y2 y3 y4 y5 y6))
  | 0 => ⟨fun _ _ _ r h => by simp [transhumancelaw05_SeedSpread.j0] at h, fun _ _ _ _ r h => by simp [transhumancelaw05_SeedSpread.l0] at h, fun _ _ _ _ _ _ _ r h => by simp [transhumancelaw05_SeedSpread.l1] at h⟩
  | k + 1 => by
    obtain ⟨ih0, ih1, ih2⟩ := transhumancelaw05_SeedSpread.mono_l k
    refine ⟨?_, ?_, ?_⟩
    · intro y0 y1 y2
      unfold transhumancelaw05_SeedSpread.j0
      repeat' first
      | (with_reducible exact ih0 _ _ _)
      | (with_reducible exact ih1 _ _ _ _)
      | (with_reducible exact ih2 _ _ _ _ _ _ _)
      | (with_reducible exact seed_Child.mono _ _ _)
      | (with_reducible exact seed_Mix.mono _ _ _)
      | (with_reducible exact transhumancelaw05_fixed.mono _)
      | (with_reducible exact LeO.refl _)
      | (with_reducible exact LeO.none _)
      | (with_reducible refine LeO.ite ?_ ?_)
      | (with_reducible refine LeO.bind ?_ (fun _ => ?_))
      | exact ih0 _ _ _
      | exact ih1 _ _ _ _
      | exact ih2 _ _ _ _ _ _ _
      | exact seed_Child.mono _ _ _
      | exact seed_Mix.mono _ _ _
      | exact transhumancelaw05_fixed.mono _
      | exact LeO.none _
      | refine LeO.ite ?_ ?_
      | refine LeO.bind ?_ (fun _ => ?_)
    · intro y0 y1 y2 y3
      unfold transhumancelaw05_SeedSpread.l0
      repeat' first
      | (with_reducible exact ih0 _ _ _)
      | (with_reducible exact ih1 _ _ _ _)
      | (with_reducible exact ih2 _ _ _ _ _ _ _)
      | (with_reducible exact seed_Child.mono _ _ _)
      | (with_reducible exact seed_Mix.mono _ _ _)
      | (with_reducible exact transhumancelaw05_fixed.mono _)
      | (with_reducible exact LeO.refl _)
      | (with_reducible exact LeO.none _)
      | (with_reducible refine LeO.ite ?_ ?_)
      | (with_reducible refine LeO.bind ?_ (fun _ => ?_))
      | exact ih0 _ _ _
      | exact ih1 _ _ _ _
      | exact ih2 _ _ _ _ _ _ _
      | exact seed_Child.mono _ _ _
      | exact seed_Mix.mono _ _ _
      | exact transhumancelaw05_fixed.mono _
      | exact LeO.none _
      | refine LeO.ite ?_ ?_
      | refine LeO.bind ?_ (fun _ => ?_)
    · intro y0 y1 y2 y3 y4 y5 y6
      unfold transhumancelaw05_SeedSpread.l1
      repeat' first
      | (with_reducible exact ih0 _ _ _)
      | (with_reducible exact ih1 _ _ _ _)
      | (with_reducible exact ih2 _ _ _ _ _ _ _)
      | (with_reducible exact seed_Child.mono _ _ _)
      | (with_reducible exact seed_Mix.mono _ _ _)
      | (with_reducible exact transhumancelaw05_fixed.mono _)
      | (with_reducible exact LeO.refl _)
      | (with_reducible exact LeO.none _)
      | (with_reducible refine LeO.ite ?_ ?_)
      | (with_reducible refine LeO.bind ?_ (fun _ => ?_))
      | exact ih0 _ _ _
      | exact ih1 _ _ _ _
      | exact ih2 _ _ _ _ _ _ _
      | exact seed_Child.mono _ _ _
      | exact seed_Mix.mono _ _ _
      | exact transhumancelaw05_fixed.mono _
      | exact LeO.none _
      | refine LeO.ite ?_ ?_
      | refine LeO.bind ?_ (fun _ => ?_)
theorem transhumancelaw05_SeedSpread.mono : ∀ a0 a1 k, LeO (transhumancelaw05_SeedSpread.f k a0 a1) (transhumancelaw05_SeedSpread.f (k + 1) a0 a1) := by
  intro a0 a1 k
  obtain ⟨ih0, ih1, ih2⟩ := transhumancelaw05_SeedSpread.mono_l k
  unfold transhumancelaw05_SeedSpread.f
  repeat' first
      | (with_reducible exact ih0 _ _ _)
      | (with_reducible exact ih1 _ _ _ _)
      | (with_reducible exact ih2 _ _ _ _ _ _ _)
      | (with_reducible exact seed_Child.mono _ _ _)
      | (with_reducible exact seed_Mix.mono _ _ _)
      | (with_reducible exact transhumancelaw05_fixed.mono _)
      | (with_reducible exact LeO.refl _)
      | (with_reducible exact LeO.none _)
      | (with_reducible refine LeO.ite ?_ ?_)
      | (with_reducible refine LeO.bind ?_ (fun _ => ?_))
      | exact ih0 _ _ _
      | exact ih1 _ _ _ _
      | exact ih2 _ _ _ _ _ _ _
      | exact seed_Child.mono _ _ _
      | exact seed_Mix.mono _ _ _
      | exact transhumancelaw05_fixed.mono _
      | exact LeO.none _
      | refine LeO.ite ?_ ?_
      | refine LeO.bind ?_ (fun _ => ?_)
set_option maxHeartbeats 8000000 in
set_option maxRecDepth 100000 in
theorem transhumancelaw05_SeedSpread.calls (k : Nat) (a0 : Int) (a1 : Int) (r : Bool) (w : World) (h : transhumancelaw05_SeedSpread.f k a0 a1 = some r) :
    Calls Try.prog 7 #[.int .i64 a0, .int .i64 a1] w fun e w' => e = .returned (.bool r) ∧ Below w.heap.size w w' := by
  have HB := Aside0.mk (Below.refl w.heap.size w)
  have H : ((transhumancelaw05_fixed.f k).bind fun t151 => (if t151 = true then ((transhumanceref05_Is.f a0).bind fun t152 => (if t152 = true then (if a1 < 0 then (transhumancelaw05_SeedSpread.j0 k a0 a1 true) else (transhumancelaw05_SeedSpread.j0 k a0 a1 (decide (a1 > 60)))) else (transhumancelaw05_SeedSpread.j0 k a0 a1 true))) else (transhumancelaw05_SeedSpread.j0 k a0 a1 true))) = some r := h
  clear h
  have HC3 := Aside0.mk H
  clear H
  go_enter Try.func7, Try.ntmps7
  go_upto_region 1 with (fail)
  go_cut [24] (fun v24 wc => ∃ (kq : Nat) (x24_2 : Bool), v24 = .bool x24_2 ∧ Aside0 (transhumancelaw05_SeedSpread.j0 kq a0 a1 x24_2 = some r) ∧ Aside0 (kq ≤ k) ∧ Aside0 (Below w.heap.size w wc))
  case first =>
    have H := HC3.out
    clear HC3
    replace H := Option.bind_eq_some_iff.mp H
    obtain ⟨t151, A40, H⟩ := H
    replace H : (if t151 = true then ((transhumanceref05_Is.f a0).bind fun t152 => (if t152 = true then (if a1 < 0 then (transhumancelaw05_SeedSpread.j0 k a0 a1 true) else (transhumancelaw05_SeedSpread.j0 k a0 a1 (decide (a1 > 60)))) else (transhumancelaw05_SeedSpread.j0 k a0 a1 true))) else (transhumancelaw05_SeedSpread.j0 k a0 a1 true)) = some r := H
    have A4 := Aside0.mk A40
    clear A40
    by_cases c5 : t151 = true
    · subst c5
      have H1 : ((transhumanceref05_Is.f a0).bind fun t152 => (if t152 = true then (if a1 < 0 then (transhumancelaw05_SeedSpread.j0 k a0 a1 true) else (transhumancelaw05_SeedSpread.j0 k a0 a1 (decide (a1 > 60)))) else (transhumancelaw05_SeedSpread.j0 k a0 a1 true))) = some r := by rw [if_pos rfl] at H; exact H
      clear H
      have H := H1
      clear H1
      replace H := Option.bind_eq_some_iff.mp H
      obtain ⟨t152, A60, H⟩ := H
      replace H : (if t152 = true then (if a1 < 0 then (transhumancelaw05_SeedSpread.j0 k a0 a1 true) else (transhumancelaw05_SeedSpread.j0 k a0 a1 (decide (a1 > 60)))) else (transhumancelaw05_SeedSpread.j0 k a0 a1 true)) = some r := H
      have A6 := Aside0.mk A60
      clear A60
      by_cases c7 : t152 = true
      · subst c7
        have H1 : (if a1 < 0 then (transhumancelaw05_SeedSpread.j0 k a0 a1 true) else (transhumancelaw05_SeedSpread.j0 k a0 a1 (decide (a1 > 60)))) = some r := by rw [if_pos rfl] at H; exact H
        clear H
        have H := H1
        clear H1
        by_cases c8 : a1 < 0
        · rw [if_pos c8] at H
          have c8b0 : decide (a1 < 0) = true := decide_eq_true c8
          clear c8
          (first | rw [c8b0] | (simp only [i64_w, i32_w]; rw [c8b0]) | skip)
          have H' := Aside0.mk H
          clear H
          go_wp2_with (first | ((with_reducible refine gate_callee (f := 13) rfl ?_); refine goesL_ (some 10) rfl rfl Try.func13 (by kernel_rfl) rfl #[] rfl (by (try simp only [List.map_toArray, List.map_cons, List.map_nil]); first | done | rfl | (simp only [List.length_drop, List.length_take]; rfl)) ?_; (with_reducible refine (transhumancelaw05_fixed.calls k  true _ A4.out).mono ?_); rintro e w9 ⟨rfl, hb⟩; refine ⟨_, rfl, ?_⟩; have n0_ := Aside0.mk (below_step (by repeat (first | (with_reducible first | exact HB.out | apply below_alloc | apply pw_below_drewN | apply below_drew1) | exact HB.out)) hb); clear HB; have HB := n0_; clear n0_; (try clear hb); (try clear hb2); (try clear hk); (try clear hi)) | (go_at_call 20; (with_reducible refine (transhumanceref05_Is.calls a0 true _ A6.out).mono ?_); rintro e w' ⟨rfl, ⟨nd, rfl⟩⟩))
          go_meet
          case rel => exact ⟨_, (true), (by first | rfl | (simp; done) | (simp [*]; done)), H', ⟨by first | omega | exact Nat.le_refl _⟩, ⟨by repeat (first | (with_reducible first | exact HB.out | apply below_alloc | apply pw_below_drewN | apply below_drew1) | exact HB.out)⟩⟩
        · rw [if_neg c8] at H
          have c8b0 : decide (a1 < 0) = false := decide_eq_false c8
          clear c8
          (first | rw [c8b0] | (simp only [i64_w, i32_w]; rw [c8b0]) | skip)
          have H' := Aside0.mk H
          clear H
          go_wp2_with (first | ((with_reducible refine gate_callee (f := 13) rfl ?_); refine goesL_ (some 10) rfl rfl Try.func13 (by kernel_rfl) rfl #[] rfl (by (try simp only [List.map_toArray, List.map_cons, List.map_nil]); first | done | rfl | (simp only [List.length_drop, List.length_take]; rfl)) ?_; (with_reducible refine (transhumancelaw05_fixed.calls k  true _ A4.out).mono ?_); rintro e w10 ⟨rfl, hb⟩; refine ⟨_, rfl, ?_⟩; have n0_ := Aside0.mk (below_step (by repeat (first | (with_reducible first | exact HB.out | apply below_alloc | apply pw_below_drewN | apply below_drew1) | exact HB.out)) hb); clear HB; have HB := n0_; clear n0_; (try clear hb); (try clear hb2); (try clear hk); (try clear hi)) | (go_at_call 20; (with_reducible refine (transhumanceref05_Is.calls a0 true _ A6.out).mono ?_); rintro e w' ⟨rfl, ⟨nd, rfl⟩⟩))
          go_meet
          case rel => exact ⟨_, (decide (a1 > 60)), (by first | rfl | (simp; done) | (simp [*]; done)), H', ⟨by first | omega | exact Nat.le_refl _⟩, ⟨by repeat (first | (with_reducible first | exact HB.out | apply below_alloc | apply pw_below_drewN | apply below_drew1) | exact HB.out)⟩⟩
      · replace c7 := Bool.eq_false_iff.mpr c7
        subst c7
        have H1 : (transhumancelaw05_SeedSpread.j0 k a0 a1 true) = some r := by rw [if_neg (show ¬ (false = true) by decide)] at H; exact H
        clear H
        have H := H1
        clear H1
        have H' := Aside0.mk H
        clear H
        go_wp2_with (first | ((with_reducible refine gate_callee (f := 13) rfl ?_); refine goesL_ (some 10) rfl rfl Try.func13 (by kernel_rfl) rfl #[] rfl (by (try simp only [List.map_toArray, List.map_cons, List.map_nil]); first | done | rfl | (simp only [List.length_drop, List.length_take]; rfl)) ?_; (with_reducible refine (transhumancelaw05_fixed.calls k  true _ A4.out).mono ?_); rintro e w11 ⟨rfl, hb⟩; refine ⟨_, rfl, ?_⟩; have n0_ := Aside0.mk (below_step (by repeat (first | (with_reducible first | exact HB.out | apply below_alloc | apply pw_below_drewN | apply below_drew1) | exact HB.out)) hb); clear HB; have HB := n0_; clear n0_; (try clear hb); (try clear hb2); (try clear hk); (try clear hi)) | (go_at_call 20; (with_reducible refine (transhumanceref05_Is.calls a0 false _ A6.out).mono ?_); rintro e w' ⟨rfl, ⟨nd, rfl⟩⟩))
        go_meet
        case rel => exact ⟨_, (true), (by first | rfl | (simp; done) | (simp [*]; done)), H', ⟨by first | omega | exact Nat.le_refl _⟩, ⟨by repeat (first | (with_reducible first | exact HB.out | apply below_alloc | apply pw_below_drewN | apply below_drew1) | exact HB.out)⟩⟩
    · replace c5 := Bool.eq_false_iff.mpr c5
      subst c5
      have H1 : (transhumancelaw05_SeedSpread.j0 k a0 a1 true) = some r := by rw [if_neg (show ¬ (false = true) by decide)] at H; exact H
      clear H
      have H := H1
      clear H1
      have H' := Aside0.mk H
      clear H
      go_wp2_with (first | ((with_reducible refine gate_callee (f := 13) rfl ?_); refine goesL_ (some 10) rfl rfl Try.func13 (by kernel_rfl) rfl #[] rfl (by (try simp only [List.map_toArray, List.map_cons, List.map_nil]); first | done | rfl | (simp only [List.length_drop, List.length_take]; rfl)) ?_; (with_reducible refine (transhumancelaw05_fixed.calls k  false _ A4.out).mono ?_); rintro e w12 ⟨rfl, hb⟩; refine ⟨_, rfl, ?_⟩; have n0_ := Aside0.mk (below_step (by repeat (first | (with_reducible first | exact HB.out | apply below_alloc | apply pw_below_drewN | apply below_drew1) | exact HB.out)) hb); clear HB; have HB := n0_; clear n0_; (try clear hb); (try clear hb2); (try clear hk); (try clear hi)))
      go_meet
      case rel => exact ⟨_, (true), (by first | rfl | (simp; done) | (simp [*]; done)), H', ⟨by first | omega | exact Nat.le_refl _⟩, ⟨by repeat (first | (with_reducible first | exact HB.out | apply below_alloc | apply pw_below_drewN | apply below_drew1) | exact HB.out)⟩⟩
  case rest =>
    clear HC3
    try clear c1
    try clear p2
    try clear c5
    try clear c7
    try clear c8
    try clear c8b0
    obtain ⟨kq, x24_2, rfl, HA, HJ2, HB⟩ := hcut
    cases kq with
    | zero => exact absurd HA.out (by simp [transhumancelaw05_SeedSpread.j0])
    | succ kj2 =>
      have H := HA.out
      clear HA
      simp only [transhumancelaw05_SeedSpread.j0] at H
      by_cases c13 : x24_2 = true
      · subst c13
        have H1 : ((transhumancelaw05_fixed.f kj2).bind fun t153 => (some t153)) = some r := by rw [if_pos rfl] at H; exact H
        clear H
        have H := H1
        clear H1
        replace H := Option.bind_eq_some_iff.mp H
        obtain ⟨t153, A140, H⟩ := H
        replace H : (some t153) = some r := H
        have A14 := Aside0.mk A140
        clear A140
        obtain rfl := Option.some.inj H
        go_wp2_with (first | ((with_reducible refine gate_callee (f := 13) rfl ?_); refine goesL_ (some 25) rfl rfl Try.func13 (by kernel_rfl) rfl #[] rfl (by (try simp only [List.map_toArray, List.map_cons, List.map_nil]); first | done | rfl | (simp only [List.length_drop, List.length_take]; rfl)) ?_; (with_reducible refine (transhumancelaw05_fixed.calls kj2  t153 _ A14.out).mono ?_); rintro e w15 ⟨rfl, hb⟩; refine ⟨_, rfl, ?_⟩; have n0_ := Aside0.mk (below_step (by repeat (first | (with_reducible first | exact HB.out | apply below_alloc | apply pw_below_drewN | apply below_drew1) | exact HB.out)) hb); clear HB; have HB := n0_; clear n0_; (try clear hb); (try clear hb2); (try clear hk); (try clear hi)))
        go_ret
        exact ⟨by first | rfl | (simp [errW_none, errW_some] <;> rfl) | (simp [*, errW_none, errW_some] <;> rfl), by repeat (first | (with_reducible first | exact HB.out | apply below_alloc | apply pw_below_drewN | apply below_drew1) | exact HB.out)⟩
      · replace c13 := Bool.eq_false_iff.mpr c13
        subst c13
        have H1 : (transhumancelaw05_SeedSpread.l0 kj2 a0 a1 (([] : List Int)) 0) = some r := by rw [if_neg (show ¬ (false = true) by decide)] at H; exact H
        clear H
        have H := H1
        clear H1
        obtain ⟨y154, hy154⟩ : ∃ y_ : List Int, y_ = (([] : List Int)) := ⟨_, rfl⟩
        replace H : (transhumancelaw05_SeedSpread.l0 kj2 a0 a1 y154 0) = some r := by first | (rw [hy154]; with_reducible exact H) | (have H2_ := (Option.bind_some _ _).symm.trans H; rw [hy154]; with_reducible exact H2_) | (have H2_ := (Option.bind_some _ _).symm.trans H; with_reducible exact H2_) | with_reducible exact H | (rw [hy154]; exact H) | exact H
        have Ny154 := Aside0.mk hy154
        clear hy154
        have H' := Aside0.mk H
        clear H
        go_wp2_with (first | ((with_reducible refine gate_dst (N := 26) rfl ?_); refine Kd.R_lit (Kd.int .i64) _ 3 ?hg (N := 26) ?hd (xs := ([] : List Int)) (inner := []) (ok := fun _ => True) (okp := fun _ => True) ?hr ?hp (fun _ hk => hk) trivial (Below.refl _ _) (Nat.le_refl _) (by simp) ?_; (case hd => rfl); (case hg => rfl); (case hr => first | (go_simp; done) | (go_simp; rfl)); (case hp => exact (Reps.none _ _)); intro v155 w16 ho17 hb hg_ hnew_; clear hg_ hnew_; (first | rw [← Ny154.out] at ho17 | (simp only [Int.reduceToNat] at ho17; rw [← Ny154.out] at ho17)); have n0_ := Aside0.mk (Kd.R_lower ho17 (below_size (by repeat (first | (with_reducible first | exact HB.out | apply below_alloc | apply pw_below_drewN | apply below_drew1) | exact HB.out)))); have n1_ := Aside0.mk (below_step (by repeat (first | (with_reducible first | exact HB.out | apply below_alloc | apply pw_below_drewN | apply below_drew1) | exact HB.out)) hb); clear HB; have HO156 := n0_; have HB := n1_; clear n0_ n1_; clear hb ho17))
        go_loopg [5, 6] kj2 (fun kq v5 v6 w' => ∃ (x5_2 : List Int) (x6_2 : Int), v6 = .int .i64 x6_2 ∧ Aside0 (transhumancelaw05_SeedSpread.l0 kq a0 a1 x5_2 x6_2 = some r) ∧ Aside0 (kq ≤ kj2) ∧ Aside0 (Kd.R (Kd.int .i64) 3 w' w.heap.size (fun _ => True) v5 x5_2) ∧ Aside0 (Below w.heap.size w w'))
        case atStart => exact ⟨(y154), (0), (by first | rfl | (simp; done) | (simp [*]; done)), H', ⟨Nat.le_refl _⟩, ⟨by (with_reducible repeat (first | apply Kd.R_alloc | apply Kd.R_drewN | apply Kd.R_drew)); exact HO156.out⟩, ⟨by repeat (first | (with_reducible first | exact HB.out | apply below_alloc | apply pw_below_drewN | apply below_drew1) | exact HB.out)⟩⟩
        case round =>
          clear H'
          try clear c1
          try clear p2
          try clear c5
          try clear c7
          try clear c8
          try clear c8b0
          try clear c13
          try clear p2
          obtain ⟨x5_2, x6_2, rfl, HA, HK2, HO_5, HB⟩ := hrel
          cases gk with
          | zero => exact absurd HA.out (by simp [transhumancelaw05_SeedSpread.l0])
          | succ k2 =>
            have H := HA.out
            clear HA
            simp only [transhumancelaw05_SeedSpread.l0] at H
            by_cases c18 : x6_2 < a1
            · rw [if_pos c18] at H
              have c18b0 : decide (x6_2 < a1) = true := decide_eq_true c18
              clear c18
              replace H := Option.bind_eq_some_iff.mp H
              obtain ⟨t157, A190, H⟩ := H
              replace H : ((seed_Mix.f k2 a0 x6_2).bind fun t158 => (transhumancelaw05_SeedSpread.l1 k2 a0 a1 x5_2 x6_2 t157 t158 0)) = some r := H
              have A19 := Aside0.mk A190
              clear A190
              replace H := Option.bind_eq_some_iff.mp H
              obtain ⟨t158, A200, H⟩ := H
              replace H : (transhumancelaw05_SeedSpread.l1 k2 a0 a1 x5_2 x6_2 t157 t158 0) = some r := H
              have A20 := Aside0.mk A200
              clear A200
              have H' := Aside0.mk H
              clear H
              go_wp2_with (first | ((with_reducible refine gate_callee (f := 16) rfl ?_); refine goesL_ (some 34) rfl rfl Try.func16 (by kernel_rfl) rfl #[.int .i64 a0, .int .i64 x6_2] rfl (by (try simp only [List.map_toArray, List.map_cons, List.map_nil]); first | done | rfl | (simp only [List.length_drop, List.length_take]; rfl)) ?_; (with_reducible refine (seed_Child.calls k2 a0 x6_2 t157 _ A19.out).mono ?_); rintro e w' ⟨rfl, ⟨nd, rfl⟩⟩; refine ⟨_, rfl, ?_⟩) | ((with_reducible refine gate_callee (f := 14) rfl ?_); refine goesL_ (some 37) rfl rfl Try.func14 (by kernel_rfl) rfl #[.int .i64 a0, .int .i64 x6_2] rfl (by (try simp only [List.map_toArray, List.map_cons, List.map_nil]); first | done | rfl | (simp only [List.length_drop, List.length_take]; rfl)) ?_; (with_reducible refine (seed_Mix.calls k2 a0 x6_2 t158 _ A20.out).mono ?_); rintro e w' ⟨rfl, ⟨nd, rfl⟩⟩; refine ⟨_, rfl, ?_⟩))
              go_loopg [9] k2 (fun kq v9 w' => ∃ (x9_3 : Int), v9 = .int .i64 x9_3 ∧ Aside0 (transhumancelaw05_SeedSpread.l1 kq a0 a1 x5_2 x6_2 t157 t158 x9_3 = some r) ∧ Aside0 (kq ≤ k2) ∧ Aside0 (Kd.R (Kd.int .i64) 3 w' w.heap.size (fun _ => True) u5 x5_2) ∧ Aside0 (Below w.heap.size w w'))
              case atStart => exact ⟨(0), (by first | rfl | (simp; done) | (simp [*]; done)), H', ⟨Nat.le_refl _⟩, ⟨by (with_reducible repeat (first | apply Kd.R_alloc | apply Kd.R_drewN | apply Kd.R_drew)); exact HO_5.out⟩, ⟨by repeat (first | (with_reducible first | exact HB.out | apply below_alloc | apply pw_below_drewN | apply below_drew1) | exact HB.out)⟩⟩
              case round =>
                clear H'
                try clear c1
                try clear p2
                try clear c5
                try clear c7
                try clear c8
                try clear c8b0
                try clear c13
                try clear c14
                try clear c16
                try clear c18
                try clear c18b0
                try clear p2
                obtain ⟨x9_3, rfl, HA, HK3, HO_5, HB⟩ := hrel
                cases gk with
                | zero => exact absurd HA.out (by simp [transhumancelaw05_SeedSpread.l1])
                | succ k3 =>
                  have H := HA.out
                  clear HA
                  simp only [transhumancelaw05_SeedSpread.l1] at H
                  by_cases c21 : x9_3 < (x5_2.length : Int)
                  · rw [if_pos c21] at H
                    have c21b0 : decide (x9_3 < (x5_2.length : Int)) = true := decide_eq_true c21
                    clear c21
                    by_cases c22 : 0 ≤ x9_3
                    · rw [if_pos c22] at H
                      have c22b0 : decide (0 ≤ x9_3) = true := decide_eq_true c22
                      clear c22
                      by_cases c23 : (rd x5_2 x9_3) = t157
                      · rw [if_pos c23] at H
                        have c23b0 : ((rd x5_2 x9_3) == t157) = true := beq_iff_eq.mpr c23
                        have c23b1 : ((rd x5_2 x9_3) != t157) = false := bne_eq_false_iff_eq.mpr c23
                        clear c23
                        obtain rfl := Option.some.inj H
                        obtain ⟨Ao24, co24, eo24⟩ := Kd.R_slice HO_5.out
                        subst eo24
                        have p159 : 0 ≤ (x9_3 : Int) := of_decide_eq_true (by first | (with_reducible assumption) | assumption)
                        have q159 : x9_3 < (x5_2.length : Int) := of_decide_eq_true (by first | (with_reducible assumption) | assumption)
                        obtain ⟨ad159, e159, hx159_0⟩ := Kd.at_int (Kd.R_reads' HO_5.out).2.2 x9_3 p159 q159
                        cases e159
                        replace p159 := eq_true p159
                        replace q159 := eq_true q159
                        go_wp2
                        go_ret
                        exact ⟨by first | rfl | (simp [errW_none, errW_some] <;> rfl) | (simp [*, errW_none, errW_some] <;> rfl), by repeat (first | (with_reducible first | exact HB.out | apply below_alloc | apply pw_below_drewN | apply below_drew1) | exact HB.out)⟩
                      · rw [if_neg c23] at H
                        have c23b0 : ((rd x5_2 x9_3) == t157) = false := beq_eq_false_iff_ne.mpr c23
                        have c23b1 : ((rd x5_2 x9_3) != t157) = true := bne_iff_ne.mpr c23
                        obtain ⟨ji25, hji25⟩ : ∃ j_ : Int, (wrap64 (x9_3 + 1)) = j_ := ⟨_, rfl⟩
                        replace H : (if 0 ≤ (ji25) then (if (ji25) < (x5_2.length : Int) then (if (rd x5_2 (ji25)) = t158 then (some false) else (transhumancelaw05_SeedSpread.l1 k3 a0 a1 x5_2 x6_2 t157 t158 (wrap64 (x9_3 + 2)))) else (none)) else (none)) = some r := by first | (rw [hji25] at H; exact H) | (simp only [hji25] at H ⊢; exact H)
                        have hji25w : (IntKind.i64.wrap (x9_3 + 1)) = ji25 := (i64_w _).trans hji25
                        by_cases c26 : 0 ≤ (ji25)
                        · rw [if_pos c26] at H
                          have c26b0 : decide (0 ≤ (ji25)) = true := decide_eq_true c26
                          clear c26
                          by_cases c27 : (ji25) < (x5_2.length : Int)
                          · rw [if_pos c27] at H
                            have c27b0 : decide ((ji25) < (x5_2.length : Int)) = true := decide_eq_true c27
                            clear c27
                            by_cases c28 : (rd x5_2 (ji25)) = t158
                            · rw [if_pos c28] at H
                              have c28b0 : ((rd x5_2 (ji25)) == t158) = true := beq_iff_eq.mpr c28
                              have c28b1 : ((rd x5_2 (ji25)) != t158) = false := bne_eq_false_iff_eq.mpr c28
                              clear c28
                              obtain rfl := Option.some.inj H
                              obtain ⟨Ao29, co29, eo29⟩ := Kd.R_slice HO_5.out
                              subst eo29
                              have p159 : 0 ≤ (x9_3 : Int) := of_decide_eq_true (by first | (with_reducible assumption) | assumption)
                              have q159 : x9_3 < (x5_2.length : Int) := of_decide_eq_true (by first | (with_reducible assumption) | assumption)
                              obtain ⟨ad159, e159, hx159_0⟩ := Kd.at_int (Kd.R_reads' HO_5.out).2.2 x9_3 p159 q159
                              cases e159
                              replace p159 := eq_true p159
                              replace q159 := eq_true q159
                              have p160 : 0 ≤ ((ji25) : Int) := of_decide_eq_true (by first | (with_reducible assumption) | assumption)
                              have q160 : (ji25) < (x5_2.length : Int) := of_decide_eq_true (by first | (with_reducible assumption) | assumption)
                              obtain ⟨ad160, e160, hx160_0⟩ := Kd.at_int (Kd.R_reads' HO_5.out).2.2 (ji25) p160 q160
                              obtain rfl : ad159 = ad160 := (by injection e160)
                              replace p160 := eq_true p160
                              replace q160 := eq_true q160
                              go_wp2
                              go_ret
                              exact ⟨by first | rfl | (simp [errW_none, errW_some] <;> rfl) | (simp only [← hji25]; first | rfl | (simp [errW_none, errW_some] <;> rfl)) | (simp [*, errW_none, errW_some] <;> rfl), by repeat (first | (with_reducible first | exact HB.out | apply below_alloc | apply pw_below_drewN | apply below_drew1) | exact HB.out)⟩
                            · rw [if_neg c28] at H
                              have c28b0 : ((rd x5_2 (ji25)) == t158) = false := beq_eq_false_iff_ne.mpr c28
                              have c28b1 : ((rd x5_2 (ji25)) != t158) = true := bne_iff_ne.mpr c28
                              have H' := Aside0.mk H
                              clear H
                              obtain ⟨Ao30, co30, eo30⟩ := Kd.R_slice HO_5.out
                              subst eo30
                              have p159 : 0 ≤ (x9_3 : Int) := of_decide_eq_true (by first | (with_reducible assumption) | assumption)
                              have q159 : x9_3 < (x5_2.length : Int) := of_decide_eq_true (by first | (with_reducible assumption) | assumption)
                              obtain ⟨ad159, e159, hx159_0⟩ := Kd.at_int (Kd.R_reads' HO_5.out).2.2 x9_3 p159 q159
                              cases e159
                              replace p159 := eq_true p159
                              replace q159 := eq_true q159
                              have p160 : 0 ≤ ((ji25) : Int) := of_decide_eq_true (by first | (with_reducible assumption) | assumption)
                              have q160 : (ji25) < (x5_2.length : Int) := of_decide_eq_true (by first | (with_reducible assumption) | assumption)
                              obtain ⟨ad160, e160, hx160_0⟩ := Kd.at_int (Kd.R_reads' HO_5.out).2.2 (ji25) p160 q160
                              obtain rfl : ad159 = ad160 := (by injection e160)
                              replace p160 := eq_true p160
                              replace q160 := eq_true q160
                              go_wp2
                              go_roundg k3
                              case measure => have := HJ2.out; have := HK2.out; have := HK3.out; omega
                              case rel => exact ⟨(wrap64 (x9_3 + 2)), (by first | rfl | (simp; done) | (simp [*]; done)), H', ⟨by have := HJ2.out; have := HK2.out; have := HK3.out; omega⟩, ⟨by (with_reducible repeat (first | apply Kd.R_alloc | apply Kd.R_drewN | apply Kd.R_drew)); exact HO_5.out⟩, ⟨by repeat (first | (with_reducible first | exact HB.out | apply below_alloc | apply pw_below_drewN | apply below_drew1) | exact HB.out)⟩⟩
                          · rw [if_neg c27] at H
                            exact absurd H (by simp)
                        · rw [if_neg c26] at H
                          exact absurd H (by simp)
                    · rw [if_neg c22] at H
                      exact absurd H (by simp)
                  · rw [if_neg c21] at H
                    have c21b0 : decide (x9_3 < (x5_2.length : Int)) = false := decide_eq_false c21
                    clear c21
                    obtain ⟨y161, hy161⟩ : ∃ y_ : List Int, y_ = (([t157, t158] : List Int)) := ⟨_, rfl⟩
                    replace H : (if x5_2.length + y161.length < 17592186044416 then (transhumancelaw05_SeedSpread.l0 k3 a0 a1 (x5_2 ++ y161) (wrap64 (x6_2 + 1))) else (none)) = some r := by first | (rw [hy161]; with_reducible exact H) | (have H2_ := (Option.bind_some _ _).symm.trans H; rw [hy161]; with_reducible exact H2_) | (have H2_ := (Option.bind_some _ _).symm.trans H; with_reducible exact H2_) | with_reducible exact H | (rw [hy161]; exact H) | exact H
                    have Ny161 := Aside0.mk hy161
                    clear hy161
                    by_cases c31 : x5_2.length + y161.length < 17592186044416
                    · rw [if_pos c31] at H
                      have LMc31 := Aside0.mk c31
                      clear c31
                      obtain ⟨y164, hy164⟩ : ∃ y_ : List Int, y_ = (x5_2 ++ y161) := ⟨_, rfl⟩
                      replace H : (transhumancelaw05_SeedSpread.l0 k3 a0 a1 y164 (wrap64 (x6_2 + 1))) = some r := by first | (rw [hy164]; with_reducible exact H) | (have H2_ := (Option.bind_some _ _).symm.trans H; rw [hy164]; with_reducible exact H2_) | (have H2_ := (Option.bind_some _ _).symm.trans H; with_reducible exact H2_) | with_reducible exact H | (rw [hy164]; exact H) | exact H
                      have Ny164 := Aside0.mk hy164
                      clear hy164
                      have H' := Aside0.mk H
                      clear H
                      obtain ⟨Ao32, co32, eo32⟩ := Kd.R_slice HO_5.out
                      subst eo32
                      go_wp2_with (first | ((with_reducible refine gate_dst (N := 62) rfl ?_); refine Kd.R_lit (Kd.int .i64) _ 3 ?hg (N := 62) ?hd (xs := ([t157, t158] : List Int)) (inner := [.int .i64 t157, .int .i64 t158]) (ok := fun _ => True) (okp := fun _ => True) ?hr ?hp (fun _ hk => hk) trivial (Below.refl _ _) (Nat.le_refl _) (by simp) ?_; (case hd => rfl); (case hg => rfl); (case hr => first | (go_simp; done) | (go_simp; rfl)); (case hp => exact (Reps.one (show Kd.M (Kd.int .i64) _ _ _ t157 [.int .i64 t157] from rfl) (Reps.one (show Kd.M (Kd.int .i64) _ _ _ t158 [.int .i64 t158] from rfl) (Reps.none _ _)))); intro v162 w33 ho34 hb hg_ hnew_; clear hg_ hnew_; (first | rw [← Ny161.out] at ho34 | (simp only [Int.reduceToNat] at ho34; rw [← Ny161.out] at ho34)); have n0_ := Aside0.mk (Kd.R_elder' (by (with_reducible repeat (first | apply Kd.R_alloc | apply Kd.R_drewN | apply Kd.R_drew)); exact HO_5.out) (Kd.R_base ho34) hb); have n1_ := Aside0.mk (Kd.R_lower (Kd.R_new' ho34 (Kd.R_lt (by (with_reducible repeat (first | apply Kd.R_alloc | apply Kd.R_drewN | apply Kd.R_drew)); exact HO_5.out))) (below_size (by repeat (first | (with_reducible first | exact HB.out | apply below_alloc | apply pw_below_drewN | apply below_drew1) | exact HB.out)))); have n2_ := Aside0.mk (below_step (by repeat (first | (with_reducible first | exact HB.out | apply below_alloc | apply pw_below_drewN | apply below_drew1) | exact HB.out)) hb); clear HO_5; clear HB; have HO_5 := n0_; have HO163 := n1_; have HB := n2_; clear n0_ n1_ n2_; clear hb ho34; obtain ⟨Ao36, co36, eo36⟩ := Kd.R_slice HO163.out; subst eo36) | ((with_reducible refine gate_builtin (b := .append) (xs := #[.tmp 59, .tmp 62]) rfl ?_); at_builtin; refine Kd.R_append_rows (Kd.int .i64) (w0 := w) w.heap.size rfl (.tmp 59) (.tmp 62) 31 3 (.int .i64 0) 8 rfl Try.underlying31 info3 rfl (by decide) (by omega) (.slice Ao32 x5_2.length co32) x5_2 y161 _ _ _ (fun k_ => some k_ ≠ (.slice Ao36 y161.length co36 : Value).ownBlock) (fun _ => False) rfl rfl ?aO ?aR (fun _ _ h => h) (fun _ h => h.elim) ?aF ?aB ?aS ?aL ?_; (case aR => repeat (first | exact (Kd.R_reads' HO163.out).2.2 | (with_reducible refine Kd.C_alloc ?_ _) | (with_reducible refine Kd.C_drewN ?_ _) | (with_reducible refine Kd.C_drew ?_))); (case aB => exact (by repeat (first | (with_reducible first | exact HB.out | apply below_alloc | apply pw_below_drewN | apply below_drew1) | exact HB.out))); (case aF => exact (fun k_ hk => Kd.fresh' (Kd.R_lt (by (with_reducible repeat (first | apply Kd.R_alloc | apply Kd.R_drewN | apply Kd.R_drew)); exact HO163.out)) k_ hk)); (case aO => exact (by (with_reducible repeat (first | apply Kd.R_alloc | apply Kd.R_drewN | apply Kd.R_drew)); exact Kd.R_mono HO_5.out (fun _ hk => hk.2))); (case aS => exact (below_size (by repeat (first | (with_reducible first | exact HB.out | apply below_alloc | apply pw_below_drewN | apply below_drew1) | exact HB.out)))); (case aL => have := LMc31.out; omega); intro v165 w35 ho hb hg hat; rw [← Ny164.out] at ho; have n0_ := Aside0.mk (Kd.R_after (ok := (fun _ => True)) (by (with_reducible repeat (first | apply Kd.R_alloc | apply Kd.R_drewN | apply Kd.R_drew)); exact HO163.out) hg hat); have n1_ := Aside0.mk (hb); have n2_ := Aside0.mk (ho); clear HO163; clear HB; clear HO_5; have HO163 := n0_; have HB := n1_; have HO166 := n2_; clear n0_ n1_ n2_; clear ho hb hg hat))
                      go_roundg k3
                      case measure => have := HJ2.out; have := HK2.out; have := HK3.out; omega
                      case rel => exact ⟨(y164), (wrap64 (x6_2 + 1)), (by first | rfl | (simp; done) | (simp [*]; done)), H', ⟨by have := HJ2.out; have := HK2.out; have := HK3.out; omega⟩, ⟨by (with_reducible repeat (first | apply Kd.R_alloc | apply Kd.R_drewN | apply Kd.R_drew)); exact Kd.R_mono HO166.out (fun _ hk => trivial)⟩, ⟨by repeat (first | (with_reducible first | exact HB.out | apply below_alloc | apply pw_below_drewN | apply below_drew1) | exact HB.out)⟩⟩
                    · rw [if_neg c31] at H
                      exact absurd H (by simp)
            · rw [if_neg c18] at H
              have c18b0 : decide (x6_2 < a1) = false := decide_eq_false c18
              clear c18
              obtain rfl := Option.some.inj H
              go_wp2
              go_ret
              exact ⟨by first | rfl | (simp [errW_none, errW_some] <;> rfl) | (simp [*, errW_none, errW_some] <;> rfl), by repeat (first | (with_reducible first | exact HB.out | apply below_alloc | apply pw_below_drewN | apply below_drew1) | exact HB.out)⟩

/-- THE ONE PURE STATEMENT of transhumancelaw05_SeedSpread: yours. -/
def transhumancelaw05_SeedSpread.Pure : Prop := ∀ (a0 : Int) (a1 : Int), (Lit.int .i64 a0).wf = true → (Lit.int .i64 a1).wf = true → ∃ k, transhumancelaw05_SeedSpread.f k a0 a1 = some true
theorem transhumancelaw05_SeedSpread.walk (P : transhumancelaw05_SeedSpread.Pure) (a0 : Int) (a1 : Int) (w : World) (w0 : (Lit.int .i64 a0).wf = true) (w1 : (Lit.int .i64 a1).wf = true) :
    Calls Try.prog 7 #[.int .i64 a0, .int .i64 a1] w fun e w' => e = .returned (.bool true) ∧ Below w.heap.size w w' := by
  obtain ⟨k, h⟩ := P a0 a1 w0 w1
  refine (transhumancelaw05_SeedSpread.calls k a0 a1 true w h).mono ?_
  rintro e w' ⟨rfl, hd⟩
  exact ⟨rfl, hd⟩

end Go.Proofs.Ytlkmomkpdmmjkaa.PSeedSpread
