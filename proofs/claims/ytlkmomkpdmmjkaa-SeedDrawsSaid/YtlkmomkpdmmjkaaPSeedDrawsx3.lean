-- Written by a program of this session (a changed copy of the kit's print).
import Derived.Test.YtlkmomkpdmmjkaaPSeedDrawsx0
import Derived.Test.YtlkmomkpdmmjkaaPSeedDrawsx1
import Derived.Test.YtlkmomkpdmmjkaaPSeedDrawsx2
namespace Go.Proofs.Ytlkmomkpdmmjkaa.PSeedDraws
open Go.RowKit Go.Proofs.YtlkmomkpdmmjkaaW.PrintWords Go.Proofs.YtlkmomkpdmmjkaaW.PrintLast Go.Proofs.YtlkmomkpdmmjkaaW.PrintMore
attribute [local go_sem] max2_int min2_int max_two min_two max_three min_three max_four min_four   -- for this text's walks alone
set_option linter.unusedVariables false
set_option linter.unusedSimpArgs false

attribute [local go_sem high] eqA25
/-! ### transhumancelaw05_fixed: function 13 -/
def transhumancelaw05_fixed.f (k : Nat)  : Option (Bool) := (seed_Mix.f k 0 4294967295).bind fun t136 => (if t136 = 0 then ((seed_Mix.f k 1 4294967295).bind fun t137 => ((transhumanceref05_Mix.f k 1 4294967295).bind fun t138 => (if t137 = t138 then (if t137 = 0 then (some false) else ((seed_Mix.f k (-1) 0).bind fun t139 => (if t139 = 0 then ((seed_Mix.f k 0 4294967296).bind fun t140 => (if t140 = 0 then ((seed_Child.f k 7 3).bind fun t141 => ((transhumanceref05_Child.f k 7 3).bind fun t142 => (if t141 = t142 then ((seed_Child.f k 7 4).bind fun t143 => (if t141 = t143 then (some false) else ((seed_Draw.f k 7 3).bind fun bt144 => ((transhumanceref05_Draw.f k 7 3).bind fun bt146 => (if (bt144.1 == bt146.1 && (bt144.2 == bt146.2)) = true then ((seed_Draw.f k (-1) 0).bind fun bt148 => (if (bt148.1 == 0 && (bt148.2 == 0)) = true then ((seed_Child.f k 7 (-1)).bind fun t150 => (some (t150 == 0))) else (some false))) else (some false)))))) else (some false)))) else (some false))) else (some false)))) else (some false)))) else (some false))
theorem transhumancelaw05_fixed.mono : ∀ k, LeO (transhumancelaw05_fixed.f k ) (transhumancelaw05_fixed.f (k + 1) ) := by
  intro  k
  unfold transhumancelaw05_fixed.f
  repeat' first
      | (with_reducible exact seed_Child.mono _ _ _)
      | (with_reducible exact seed_Draw.mono _ _ _)
      | (with_reducible exact seed_Mix.mono _ _ _)
      | (with_reducible exact transhumanceref05_Child.mono _ _ _)
      | (with_reducible exact transhumanceref05_Draw.mono _ _ _)
      | (with_reducible exact transhumanceref05_Mix.mono _ _ _)
      | (with_reducible exact LeO.refl _)
      | (with_reducible exact LeO.none _)
      | (with_reducible refine LeO.ite ?_ ?_)
      | (with_reducible refine LeO.bind ?_ (fun _ => ?_))
      | exact seed_Child.mono _ _ _
      | exact seed_Draw.mono _ _ _
      | exact seed_Mix.mono _ _ _
      | exact transhumanceref05_Child.mono _ _ _
      | exact transhumanceref05_Draw.mono _ _ _
      | exact transhumanceref05_Mix.mono _ _ _
      | exact LeO.none _
      | refine LeO.ite ?_ ?_
      | refine LeO.bind ?_ (fun _ => ?_)
set_option maxHeartbeats 8000000 in
set_option maxRecDepth 100000 in
theorem transhumancelaw05_fixed.calls (k : Nat)  (r : Bool) (w : World) (h : transhumancelaw05_fixed.f k  = some r) :
    Calls Try.prog 13 #[] w fun e w' => e = .returned (.bool r) ∧ Below w.heap.size w w' := by
  have hu25 := Try.underlying25
  have HB := Aside0.mk (Below.refl w.heap.size w)
  have H : ((seed_Mix.f k 0 4294967295).bind fun t136 => (if t136 = 0 then ((seed_Mix.f k 1 4294967295).bind fun t137 => ((transhumanceref05_Mix.f k 1 4294967295).bind fun t138 => (if t137 = t138 then (if t137 = 0 then (some false) else ((seed_Mix.f k (-1) 0).bind fun t139 => (if t139 = 0 then ((seed_Mix.f k 0 4294967296).bind fun t140 => (if t140 = 0 then ((seed_Child.f k 7 3).bind fun t141 => ((transhumanceref05_Child.f k 7 3).bind fun t142 => (if t141 = t142 then ((seed_Child.f k 7 4).bind fun t143 => (if t141 = t143 then (some false) else ((seed_Draw.f k 7 3).bind fun bt144 => ((transhumanceref05_Draw.f k 7 3).bind fun bt146 => (if (bt144.1 == bt146.1 && (bt144.2 == bt146.2)) = true then ((seed_Draw.f k (-1) 0).bind fun bt148 => (if (bt148.1 == 0 && (bt148.2 == 0)) = true then ((seed_Child.f k 7 (-1)).bind fun t150 => (some (t150 == 0))) else (some false))) else (some false)))))) else (some false)))) else (some false))) else (some false)))) else (some false)))) else (some false))) = some r := h
  clear h
  replace H := Option.bind_eq_some_iff.mp H
  obtain ⟨t136, A10, H⟩ := H
  replace H : (if t136 = 0 then ((seed_Mix.f k 1 4294967295).bind fun t137 => ((transhumanceref05_Mix.f k 1 4294967295).bind fun t138 => (if t137 = t138 then (if t137 = 0 then (some false) else ((seed_Mix.f k (-1) 0).bind fun t139 => (if t139 = 0 then ((seed_Mix.f k 0 4294967296).bind fun t140 => (if t140 = 0 then ((seed_Child.f k 7 3).bind fun t141 => ((transhumanceref05_Child.f k 7 3).bind fun t142 => (if t141 = t142 then ((seed_Child.f k 7 4).bind fun t143 => (if t141 = t143 then (some false) else ((seed_Draw.f k 7 3).bind fun bt144 => ((transhumanceref05_Draw.f k 7 3).bind fun bt146 => (if (bt144.1 == bt146.1 && (bt144.2 == bt146.2)) = true then ((seed_Draw.f k (-1) 0).bind fun bt148 => (if (bt148.1 == 0 && (bt148.2 == 0)) = true then ((seed_Child.f k 7 (-1)).bind fun t150 => (some (t150 == 0))) else (some false))) else (some false)))))) else (some false)))) else (some false))) else (some false)))) else (some false)))) else (some false)) = some r := H
  have A1 := Aside0.mk A10
  clear A10
  by_cases c2 : t136 = 0
  · rw [if_pos c2] at H
    have c2b0 : (t136 == 0) = true := beq_iff_eq.mpr c2
    have c2b1 : (t136 != 0) = false := bne_eq_false_iff_eq.mpr c2
    clear c2
    replace H := Option.bind_eq_some_iff.mp H
    obtain ⟨t137, A30, H⟩ := H
    replace H : ((transhumanceref05_Mix.f k 1 4294967295).bind fun t138 => (if t137 = t138 then (if t137 = 0 then (some false) else ((seed_Mix.f k (-1) 0).bind fun t139 => (if t139 = 0 then ((seed_Mix.f k 0 4294967296).bind fun t140 => (if t140 = 0 then ((seed_Child.f k 7 3).bind fun t141 => ((transhumanceref05_Child.f k 7 3).bind fun t142 => (if t141 = t142 then ((seed_Child.f k 7 4).bind fun t143 => (if t141 = t143 then (some false) else ((seed_Draw.f k 7 3).bind fun bt144 => ((transhumanceref05_Draw.f k 7 3).bind fun bt146 => (if (bt144.1 == bt146.1 && (bt144.2 == bt146.2)) = true then ((seed_Draw.f k (-1) 0).bind fun bt148 => (if (bt148.1 == 0 && (bt148.2 == 0)) = true then ((seed_Child.f k 7 (-1)).bind fun t150 => (some (t150 == 0))) else (some false))) else (some false)))))) else (some false)))) else (some false))) else (some false)))) else (some false))) = some r := H
    have A3 := Aside0.mk A30
    clear A30
    replace H := Option.bind_eq_some_iff.mp H
    obtain ⟨t138, A40, H⟩ := H
    replace H : (if t137 = t138 then (if t137 = 0 then (some false) else ((seed_Mix.f k (-1) 0).bind fun t139 => (if t139 = 0 then ((seed_Mix.f k 0 4294967296).bind fun t140 => (if t140 = 0 then ((seed_Child.f k 7 3).bind fun t141 => ((transhumanceref05_Child.f k 7 3).bind fun t142 => (if t141 = t142 then ((seed_Child.f k 7 4).bind fun t143 => (if t141 = t143 then (some false) else ((seed_Draw.f k 7 3).bind fun bt144 => ((transhumanceref05_Draw.f k 7 3).bind fun bt146 => (if (bt144.1 == bt146.1 && (bt144.2 == bt146.2)) = true then ((seed_Draw.f k (-1) 0).bind fun bt148 => (if (bt148.1 == 0 && (bt148.2 == 0)) = true then ((seed_Child.f k 7 (-1)).bind fun t150 => (some (t150 == 0))) else (some false))) else (some false)))))) else (some false)))) else (some false))) else (some false)))) else (some false)) = some r := H
    have A4 := Aside0.mk A40
    clear A40
    by_cases c5 : t137 = t138
    · rw [if_pos c5] at H
      have c5b0 : (t137 == t138) = true := beq_iff_eq.mpr c5
      have c5b1 : (t137 != t138) = false := bne_eq_false_iff_eq.mpr c5
      clear c5
      by_cases c6 : t137 = 0
      · rw [if_pos c6] at H
        have c6b0 : (t137 == 0) = true := beq_iff_eq.mpr c6
        have c6b1 : (t137 != 0) = false := bne_eq_false_iff_eq.mpr c6
        clear c6
        obtain rfl := Option.some.inj H
        go_enter Try.func13, Try.ntmps13
        go_wp2_with (first | ((with_reducible refine gate_callee (f := 14) rfl ?_); refine goesL_ (some 1) rfl rfl Try.func14 (by kernel_rfl) rfl #[.int .i64 0, .int .i64 4294967295] rfl (by (try simp only [List.map_toArray, List.map_cons, List.map_nil]); first | done | rfl | (simp only [List.length_drop, List.length_take]; rfl)) ?_; (with_reducible refine (seed_Mix.calls k 0 4294967295 t136 _ A1.out).mono ?_); rintro e w' ⟨rfl, ⟨nd, rfl⟩⟩; refine ⟨_, rfl, ?_⟩) | (go_at_call 14; (with_reducible refine (seed_Mix.calls k 1 4294967295 t137 _ A3.out).mono ?_); rintro e w' ⟨rfl, ⟨nd, rfl⟩⟩) | (go_at_call 15; (with_reducible refine (transhumanceref05_Mix.calls k 1 4294967295 t138 _ A4.out).mono ?_); rintro e w' ⟨rfl, ⟨nd, rfl⟩⟩))
        go_ret
        exact ⟨by first | rfl | (simp [errW_none, errW_some] <;> rfl) | (simp [*, errW_none, errW_some] <;> rfl), by repeat (first | (with_reducible first | exact HB.out | apply below_alloc | apply pw_below_drewN | apply below_drew1) | exact HB.out)⟩
      · rw [if_neg c6] at H
        have c6b0 : (t137 == 0) = false := beq_eq_false_iff_ne.mpr c6
        have c6b1 : (t137 != 0) = true := bne_iff_ne.mpr c6
        replace H := Option.bind_eq_some_iff.mp H
        obtain ⟨t139, A70, H⟩ := H
        replace H : (if t139 = 0 then ((seed_Mix.f k 0 4294967296).bind fun t140 => (if t140 = 0 then ((seed_Child.f k 7 3).bind fun t141 => ((transhumanceref05_Child.f k 7 3).bind fun t142 => (if t141 = t142 then ((seed_Child.f k 7 4).bind fun t143 => (if t141 = t143 then (some false) else ((seed_Draw.f k 7 3).bind fun bt144 => ((transhumanceref05_Draw.f k 7 3).bind fun bt146 => (if (bt144.1 == bt146.1 && (bt144.2 == bt146.2)) = true then ((seed_Draw.f k (-1) 0).bind fun bt148 => (if (bt148.1 == 0 && (bt148.2 == 0)) = true then ((seed_Child.f k 7 (-1)).bind fun t150 => (some (t150 == 0))) else (some false))) else (some false)))))) else (some false)))) else (some false))) else (some false)) = some r := H
        have A7 := Aside0.mk A70
        clear A70
        by_cases c8 : t139 = 0
        · rw [if_pos c8] at H
          have c8b0 : (t139 == 0) = true := beq_iff_eq.mpr c8
          have c8b1 : (t139 != 0) = false := bne_eq_false_iff_eq.mpr c8
          clear c8
          replace H := Option.bind_eq_some_iff.mp H
          obtain ⟨t140, A90, H⟩ := H
          replace H : (if t140 = 0 then ((seed_Child.f k 7 3).bind fun t141 => ((transhumanceref05_Child.f k 7 3).bind fun t142 => (if t141 = t142 then ((seed_Child.f k 7 4).bind fun t143 => (if t141 = t143 then (some false) else ((seed_Draw.f k 7 3).bind fun bt144 => ((transhumanceref05_Draw.f k 7 3).bind fun bt146 => (if (bt144.1 == bt146.1 && (bt144.2 == bt146.2)) = true then ((seed_Draw.f k (-1) 0).bind fun bt148 => (if (bt148.1 == 0 && (bt148.2 == 0)) = true then ((seed_Child.f k 7 (-1)).bind fun t150 => (some (t150 == 0))) else (some false))) else (some false)))))) else (some false)))) else (some false)) = some r := H
          have A9 := Aside0.mk A90
          clear A90
          by_cases c10 : t140 = 0
          · rw [if_pos c10] at H
            have c10b0 : (t140 == 0) = true := beq_iff_eq.mpr c10
            have c10b1 : (t140 != 0) = false := bne_eq_false_iff_eq.mpr c10
            clear c10
            replace H := Option.bind_eq_some_iff.mp H
            obtain ⟨t141, A110, H⟩ := H
            replace H : ((transhumanceref05_Child.f k 7 3).bind fun t142 => (if t141 = t142 then ((seed_Child.f k 7 4).bind fun t143 => (if t141 = t143 then (some false) else ((seed_Draw.f k 7 3).bind fun bt144 => ((transhumanceref05_Draw.f k 7 3).bind fun bt146 => (if (bt144.1 == bt146.1 && (bt144.2 == bt146.2)) = true then ((seed_Draw.f k (-1) 0).bind fun bt148 => (if (bt148.1 == 0 && (bt148.2 == 0)) = true then ((seed_Child.f k 7 (-1)).bind fun t150 => (some (t150 == 0))) else (some false))) else (some false)))))) else (some false))) = some r := H
            have A11 := Aside0.mk A110
            clear A110
            replace H := Option.bind_eq_some_iff.mp H
            obtain ⟨t142, A120, H⟩ := H
            replace H : (if t141 = t142 then ((seed_Child.f k 7 4).bind fun t143 => (if t141 = t143 then (some false) else ((seed_Draw.f k 7 3).bind fun bt144 => ((transhumanceref05_Draw.f k 7 3).bind fun bt146 => (if (bt144.1 == bt146.1 && (bt144.2 == bt146.2)) = true then ((seed_Draw.f k (-1) 0).bind fun bt148 => (if (bt148.1 == 0 && (bt148.2 == 0)) = true then ((seed_Child.f k 7 (-1)).bind fun t150 => (some (t150 == 0))) else (some false))) else (some false)))))) else (some false)) = some r := H
            have A12 := Aside0.mk A120
            clear A120
            by_cases c13 : t141 = t142
            · rw [if_pos c13] at H
              have c13b0 : (t141 == t142) = true := beq_iff_eq.mpr c13
              have c13b1 : (t141 != t142) = false := bne_eq_false_iff_eq.mpr c13
              clear c13
              replace H := Option.bind_eq_some_iff.mp H
              obtain ⟨t143, A140, H⟩ := H
              replace H : (if t141 = t143 then (some false) else ((seed_Draw.f k 7 3).bind fun bt144 => ((transhumanceref05_Draw.f k 7 3).bind fun bt146 => (if (bt144.1 == bt146.1 && (bt144.2 == bt146.2)) = true then ((seed_Draw.f k (-1) 0).bind fun bt148 => (if (bt148.1 == 0 && (bt148.2 == 0)) = true then ((seed_Child.f k 7 (-1)).bind fun t150 => (some (t150 == 0))) else (some false))) else (some false))))) = some r := H
              have A14 := Aside0.mk A140
              clear A140
              by_cases c15 : t141 = t143
              · rw [if_pos c15] at H
                have c15b0 : (t141 == t143) = true := beq_iff_eq.mpr c15
                have c15b1 : (t141 != t143) = false := bne_eq_false_iff_eq.mpr c15
                clear c15
                obtain rfl := Option.some.inj H
                go_enter Try.func13, Try.ntmps13
                go_wp2_with (first | ((with_reducible refine gate_callee (f := 14) rfl ?_); refine goesL_ (some 1) rfl rfl Try.func14 (by kernel_rfl) rfl #[.int .i64 0, .int .i64 4294967295] rfl (by (try simp only [List.map_toArray, List.map_cons, List.map_nil]); first | done | rfl | (simp only [List.length_drop, List.length_take]; rfl)) ?_; (with_reducible refine (seed_Mix.calls k 0 4294967295 t136 _ A1.out).mono ?_); rintro e w' ⟨rfl, ⟨nd, rfl⟩⟩; refine ⟨_, rfl, ?_⟩) | (go_at_call 14; (with_reducible refine (seed_Mix.calls k 1 4294967295 t137 _ A3.out).mono ?_); rintro e w' ⟨rfl, ⟨nd, rfl⟩⟩) | (go_at_call 15; (with_reducible refine (transhumanceref05_Mix.calls k 1 4294967295 t138 _ A4.out).mono ?_); rintro e w' ⟨rfl, ⟨nd, rfl⟩⟩) | (go_at_call 14; (with_reducible refine (seed_Mix.calls k (-1) 0 t139 _ A7.out).mono ?_); rintro e w' ⟨rfl, ⟨nd, rfl⟩⟩) | (go_at_call 14; (with_reducible refine (seed_Mix.calls k 0 4294967296 t140 _ A9.out).mono ?_); rintro e w' ⟨rfl, ⟨nd, rfl⟩⟩) | (go_at_call 16; (with_reducible refine (seed_Child.calls k 7 3 t141 _ A11.out).mono ?_); rintro e w' ⟨rfl, ⟨nd, rfl⟩⟩) | (go_at_call 17; (with_reducible refine (transhumanceref05_Child.calls k 7 3 t142 _ A12.out).mono ?_); rintro e w' ⟨rfl, ⟨nd, rfl⟩⟩) | (go_at_call 16; (with_reducible refine (seed_Child.calls k 7 4 t143 _ A14.out).mono ?_); rintro e w' ⟨rfl, ⟨nd, rfl⟩⟩))
                go_ret
                exact ⟨by first | rfl | (simp [errW_none, errW_some] <;> rfl) | (simp [*, errW_none, errW_some] <;> rfl), by repeat (first | (with_reducible first | exact HB.out | apply below_alloc | apply pw_below_drewN | apply below_drew1) | exact HB.out)⟩
              · rw [if_neg c15] at H
                have c15b0 : (t141 == t143) = false := beq_eq_false_iff_ne.mpr c15
                have c15b1 : (t141 != t143) = true := bne_iff_ne.mpr c15
                replace H := Option.bind_eq_some_iff.mp H
                obtain ⟨⟨t144, t145⟩, A160, H⟩ := H
                replace H : ((transhumanceref05_Draw.f k 7 3).bind fun bt146 => (if (t144 == bt146.1 && (t145 == bt146.2)) = true then ((seed_Draw.f k (-1) 0).bind fun bt148 => (if (bt148.1 == 0 && (bt148.2 == 0)) = true then ((seed_Child.f k 7 (-1)).bind fun t150 => (some (t150 == 0))) else (some false))) else (some false))) = some r := H
                have A16 := Aside0.mk A160
                clear A160
                replace H := Option.bind_eq_some_iff.mp H
                obtain ⟨⟨t146, t147⟩, A170, H⟩ := H
                replace H : (if (t144 == t146 && (t145 == t147)) = true then ((seed_Draw.f k (-1) 0).bind fun bt148 => (if (bt148.1 == 0 && (bt148.2 == 0)) = true then ((seed_Child.f k 7 (-1)).bind fun t150 => (some (t150 == 0))) else (some false))) else (some false)) = some r := H
                have A17 := Aside0.mk A170
                clear A170
                by_cases c18 : (t144 == t146 && (t145 == t147)) = true
                · rw [if_pos c18] at H
                  have c18b0 : (t144 == t146 && (t145 == t147)) = true := c18
                  (try (have c18b1 : decide (t144 = t146 && (t145 == t147)) = true := by simpa using c18))
                  (try (have c18b2 : (t144 == t146 && (t145 == t147)) = true := by simpa using c18))
                  clear c18
                  replace H := Option.bind_eq_some_iff.mp H
                  obtain ⟨⟨t148, t149⟩, A190, H⟩ := H
                  replace H : (if (t148 == 0 && (t149 == 0)) = true then ((seed_Child.f k 7 (-1)).bind fun t150 => (some (t150 == 0))) else (some false)) = some r := H
                  have A19 := Aside0.mk A190
                  clear A190
                  by_cases c20 : (t148 == 0 && (t149 == 0)) = true
                  · rw [if_pos c20] at H
                    have c20b0 : (t148 == 0 && (t149 == 0)) = true := c20
                    (try (have c20b1 : decide (t148 = 0 && (t149 == 0)) = true := by simpa using c20))
                    (try (have c20b2 : (t148 == 0 && (t149 == 0)) = true := by simpa using c20))
                    clear c20
                    replace H := Option.bind_eq_some_iff.mp H
                    obtain ⟨t150, A210, H⟩ := H
                    replace H : (some (t150 == 0)) = some r := H
                    have A21 := Aside0.mk A210
                    clear A210
                    obtain rfl := Option.some.inj H
                    go_enter Try.func13, Try.ntmps13
                    go_wp2_with (first | ((with_reducible refine gate_callee (f := 14) rfl ?_); refine goesL_ (some 1) rfl rfl Try.func14 (by kernel_rfl) rfl #[.int .i64 0, .int .i64 4294967295] rfl (by (try simp only [List.map_toArray, List.map_cons, List.map_nil]); first | done | rfl | (simp only [List.length_drop, List.length_take]; rfl)) ?_; (with_reducible refine (seed_Mix.calls k 0 4294967295 t136 _ A1.out).mono ?_); rintro e w' ⟨rfl, ⟨nd, rfl⟩⟩; refine ⟨_, rfl, ?_⟩) | (go_at_call 14; (with_reducible refine (seed_Mix.calls k 1 4294967295 t137 _ A3.out).mono ?_); rintro e w' ⟨rfl, ⟨nd, rfl⟩⟩) | (go_at_call 15; (with_reducible refine (transhumanceref05_Mix.calls k 1 4294967295 t138 _ A4.out).mono ?_); rintro e w' ⟨rfl, ⟨nd, rfl⟩⟩) | (go_at_call 14; (with_reducible refine (seed_Mix.calls k (-1) 0 t139 _ A7.out).mono ?_); rintro e w' ⟨rfl, ⟨nd, rfl⟩⟩) | (go_at_call 14; (with_reducible refine (seed_Mix.calls k 0 4294967296 t140 _ A9.out).mono ?_); rintro e w' ⟨rfl, ⟨nd, rfl⟩⟩) | (go_at_call 16; (with_reducible refine (seed_Child.calls k 7 3 t141 _ A11.out).mono ?_); rintro e w' ⟨rfl, ⟨nd, rfl⟩⟩) | (go_at_call 17; (with_reducible refine (transhumanceref05_Child.calls k 7 3 t142 _ A12.out).mono ?_); rintro e w' ⟨rfl, ⟨nd, rfl⟩⟩) | (go_at_call 16; (with_reducible refine (seed_Child.calls k 7 4 t143 _ A14.out).mono ?_); rintro e w' ⟨rfl, ⟨nd, rfl⟩⟩) | (go_at_call 18; (with_reducible refine (seed_Draw.calls k 7 3 t144 t145 _ A16.out).mono ?_); rintro e w22 ⟨rfl, hb⟩; have n0_ := Aside0.mk (below_step (by repeat (first | (with_reducible first | exact HB.out | apply below_alloc | apply pw_below_drewN | apply below_drew1) | exact HB.out)) hb); clear HB; have HB := n0_; clear n0_; (try clear hb); (try clear hb2); (try clear hk); (try clear hi)) | (go_at_call 19; (with_reducible refine (transhumanceref05_Draw.calls k 7 3 t146 t147 _ A17.out).mono ?_); rintro e w23 ⟨rfl, hb⟩; have n0_ := Aside0.mk (below_step (by repeat (first | (with_reducible first | exact HB.out | apply below_alloc | apply pw_below_drewN | apply below_drew1) | exact HB.out)) hb); clear HB; have HB := n0_; clear n0_; (try clear hb); (try clear hb2); (try clear hk); (try clear hi)) | (go_at_call 18; (with_reducible refine (seed_Draw.calls k (-1) 0 t148 t149 _ A19.out).mono ?_); rintro e w24 ⟨rfl, hb⟩; have n0_ := Aside0.mk (below_step (by repeat (first | (with_reducible first | exact HB.out | apply below_alloc | apply pw_below_drewN | apply below_drew1) | exact HB.out)) hb); clear HB; have HB := n0_; clear n0_; (try clear hb); (try clear hb2); (try clear hk); (try clear hi)) | (go_at_call 16; (with_reducible refine (seed_Child.calls k 7 (-1) t150 _ A21.out).mono ?_); rintro e w' ⟨rfl, ⟨nd, rfl⟩⟩))
                    go_ret
                    exact ⟨by first | rfl | (simp [errW_none, errW_some] <;> rfl) | (simp [*, errW_none, errW_some] <;> rfl), by repeat (first | (with_reducible first | exact HB.out | apply below_alloc | apply pw_below_drewN | apply below_drew1) | exact HB.out)⟩
                  · rw [if_neg c20] at H
                    have c20b0 : (t148 == 0 && (t149 == 0)) = false := by simpa using c20
                    (try (have c20b1 : decide (t148 = 0 && (t149 == 0)) = false := by simpa using c20))
                    (try (have c20b2 : (t148 == 0 && (t149 == 0)) = false := by simpa using c20))
                    (try (have c20b3 : ¬ (t148 = 0 && (t149 == 0)) := by simpa using c20))
                    clear c20
                    obtain rfl := Option.some.inj H
                    go_enter Try.func13, Try.ntmps13
                    go_wp2_with (first | ((with_reducible refine gate_callee (f := 14) rfl ?_); refine goesL_ (some 1) rfl rfl Try.func14 (by kernel_rfl) rfl #[.int .i64 0, .int .i64 4294967295] rfl (by (try simp only [List.map_toArray, List.map_cons, List.map_nil]); first | done | rfl | (simp only [List.length_drop, List.length_take]; rfl)) ?_; (with_reducible refine (seed_Mix.calls k 0 4294967295 t136 _ A1.out).mono ?_); rintro e w' ⟨rfl, ⟨nd, rfl⟩⟩; refine ⟨_, rfl, ?_⟩) | (go_at_call 14; (with_reducible refine (seed_Mix.calls k 1 4294967295 t137 _ A3.out).mono ?_); rintro e w' ⟨rfl, ⟨nd, rfl⟩⟩) | (go_at_call 15; (with_reducible refine (transhumanceref05_Mix.calls k 1 4294967295 t138 _ A4.out).mono ?_); rintro e w' ⟨rfl, ⟨nd, rfl⟩⟩) | (go_at_call 14; (with_reducible refine (seed_Mix.calls k (-1) 0 t139 _ A7.out).mono ?_); rintro e w' ⟨rfl, ⟨nd, rfl⟩⟩) | (go_at_call 14; (with_reducible refine (seed_Mix.calls k 0 4294967296 t140 _ A9.out).mono ?_); rintro e w' ⟨rfl, ⟨nd, rfl⟩⟩) | (go_at_call 16; (with_reducible refine (seed_Child.calls k 7 3 t141 _ A11.out).mono ?_); rintro e w' ⟨rfl, ⟨nd, rfl⟩⟩) | (go_at_call 17; (with_reducible refine (transhumanceref05_Child.calls k 7 3 t142 _ A12.out).mono ?_); rintro e w' ⟨rfl, ⟨nd, rfl⟩⟩) | (go_at_call 16; (with_reducible refine (seed_Child.calls k 7 4 t143 _ A14.out).mono ?_); rintro e w' ⟨rfl, ⟨nd, rfl⟩⟩) | (go_at_call 18; (with_reducible refine (seed_Draw.calls k 7 3 t144 t145 _ A16.out).mono ?_); rintro e w25 ⟨rfl, hb⟩; have n0_ := Aside0.mk (below_step (by repeat (first | (with_reducible first | exact HB.out | apply below_alloc | apply pw_below_drewN | apply below_drew1) | exact HB.out)) hb); clear HB; have HB := n0_; clear n0_; (try clear hb); (try clear hb2); (try clear hk); (try clear hi)) | (go_at_call 19; (with_reducible refine (transhumanceref05_Draw.calls k 7 3 t146 t147 _ A17.out).mono ?_); rintro e w26 ⟨rfl, hb⟩; have n0_ := Aside0.mk (below_step (by repeat (first | (with_reducible first | exact HB.out | apply below_alloc | apply pw_below_drewN | apply below_drew1) | exact HB.out)) hb); clear HB; have HB := n0_; clear n0_; (try clear hb); (try clear hb2); (try clear hk); (try clear hi)) | (go_at_call 18; (with_reducible refine (seed_Draw.calls k (-1) 0 t148 t149 _ A19.out).mono ?_); rintro e w27 ⟨rfl, hb⟩; have n0_ := Aside0.mk (below_step (by repeat (first | (with_reducible first | exact HB.out | apply below_alloc | apply pw_below_drewN | apply below_drew1) | exact HB.out)) hb); clear HB; have HB := n0_; clear n0_; (try clear hb); (try clear hb2); (try clear hk); (try clear hi)))
                    go_ret
                    exact ⟨by first | rfl | (simp [errW_none, errW_some] <;> rfl) | (simp [*, errW_none, errW_some] <;> rfl), by repeat (first | (with_reducible first | exact HB.out | apply below_alloc | apply pw_below_drewN | apply below_drew1) | exact HB.out)⟩
                · rw [if_neg c18] at H
                  have c18b0 : (t144 == t146 && (t145 == t147)) = false := by simpa using c18
                  (try (have c18b1 : decide (t144 = t146 && (t145 == t147)) = false := by simpa using c18))
                  (try (have c18b2 : (t144 == t146 && (t145 == t147)) = false := by simpa using c18))
                  (try (have c18b3 : ¬ (t144 = t146 && (t145 == t147)) := by simpa using c18))
                  clear c18
                  obtain rfl := Option.some.inj H
                  go_enter Try.func13, Try.ntmps13
                  go_wp2_with (first | ((with_reducible refine gate_callee (f := 14) rfl ?_); refine goesL_ (some 1) rfl rfl Try.func14 (by kernel_rfl) rfl #[.int .i64 0, .int .i64 4294967295] rfl (by (try simp only [List.map_toArray, List.map_cons, List.map_nil]); first | done | rfl | (simp only [List.length_drop, List.length_take]; rfl)) ?_; (with_reducible refine (seed_Mix.calls k 0 4294967295 t136 _ A1.out).mono ?_); rintro e w' ⟨rfl, ⟨nd, rfl⟩⟩; refine ⟨_, rfl, ?_⟩) | (go_at_call 14; (with_reducible refine (seed_Mix.calls k 1 4294967295 t137 _ A3.out).mono ?_); rintro e w' ⟨rfl, ⟨nd, rfl⟩⟩) | (go_at_call 15; (with_reducible refine (transhumanceref05_Mix.calls k 1 4294967295 t138 _ A4.out).mono ?_); rintro e w' ⟨rfl, ⟨nd, rfl⟩⟩) | (go_at_call 14; (with_reducible refine (seed_Mix.calls k (-1) 0 t139 _ A7.out).mono ?_); rintro e w' ⟨rfl, ⟨nd, rfl⟩⟩) | (go_at_call 14; (with_reducible refine (seed_Mix.calls k 0 4294967296 t140 _ A9.out).mono ?_); rintro e w' ⟨rfl, ⟨nd, rfl⟩⟩) | (go_at_call 16; (with_reducible refine (seed_Child.calls k 7 3 t141 _ A11.out).mono ?_); rintro e w' ⟨rfl, ⟨nd, rfl⟩⟩) | (go_at_call 17; (with_reducible refine (transhumanceref05_Child.calls k 7 3 t142 _ A12.out).mono ?_); rintro e w' ⟨rfl, ⟨nd, rfl⟩⟩) | (go_at_call 16; (with_reducible refine (seed_Child.calls k 7 4 t143 _ A14.out).mono ?_); rintro e w' ⟨rfl, ⟨nd, rfl⟩⟩) | (go_at_call 18; (with_reducible refine (seed_Draw.calls k 7 3 t144 t145 _ A16.out).mono ?_); rintro e w28 ⟨rfl, hb⟩; have n0_ := Aside0.mk (below_step (by repeat (first | (with_reducible first | exact HB.out | apply below_alloc | apply pw_below_drewN | apply below_drew1) | exact HB.out)) hb); clear HB; have HB := n0_; clear n0_; (try clear hb); (try clear hb2); (try clear hk); (try clear hi)) | (go_at_call 19; (with_reducible refine (transhumanceref05_Draw.calls k 7 3 t146 t147 _ A17.out).mono ?_); rintro e w29 ⟨rfl, hb⟩; have n0_ := Aside0.mk (below_step (by repeat (first | (with_reducible first | exact HB.out | apply below_alloc | apply pw_below_drewN | apply below_drew1) | exact HB.out)) hb); clear HB; have HB := n0_; clear n0_; (try clear hb); (try clear hb2); (try clear hk); (try clear hi)))
                  go_ret
                  exact ⟨by first | rfl | (simp [errW_none, errW_some] <;> rfl) | (simp [*, errW_none, errW_some] <;> rfl), by repeat (first | (with_reducible first | exact HB.out | apply below_alloc | apply pw_below_drewN | apply below_drew1) | exact HB.out)⟩
            · rw [if_neg c13] at H
              have c13b0 : (t141 == t142) = false := beq_eq_false_iff_ne.mpr c13
              have c13b1 : (t141 != t142) = true := bne_iff_ne.mpr c13
              obtain rfl := Option.some.inj H
              go_enter Try.func13, Try.ntmps13
              go_wp2_with (first | ((with_reducible refine gate_callee (f := 14) rfl ?_); refine goesL_ (some 1) rfl rfl Try.func14 (by kernel_rfl) rfl #[.int .i64 0, .int .i64 4294967295] rfl (by (try simp only [List.map_toArray, List.map_cons, List.map_nil]); first | done | rfl | (simp only [List.length_drop, List.length_take]; rfl)) ?_; (with_reducible refine (seed_Mix.calls k 0 4294967295 t136 _ A1.out).mono ?_); rintro e w' ⟨rfl, ⟨nd, rfl⟩⟩; refine ⟨_, rfl, ?_⟩) | (go_at_call 14; (with_reducible refine (seed_Mix.calls k 1 4294967295 t137 _ A3.out).mono ?_); rintro e w' ⟨rfl, ⟨nd, rfl⟩⟩) | (go_at_call 15; (with_reducible refine (transhumanceref05_Mix.calls k 1 4294967295 t138 _ A4.out).mono ?_); rintro e w' ⟨rfl, ⟨nd, rfl⟩⟩) | (go_at_call 14; (with_reducible refine (seed_Mix.calls k (-1) 0 t139 _ A7.out).mono ?_); rintro e w' ⟨rfl, ⟨nd, rfl⟩⟩) | (go_at_call 14; (with_reducible refine (seed_Mix.calls k 0 4294967296 t140 _ A9.out).mono ?_); rintro e w' ⟨rfl, ⟨nd, rfl⟩⟩) | (go_at_call 16; (with_reducible refine (seed_Child.calls k 7 3 t141 _ A11.out).mono ?_); rintro e w' ⟨rfl, ⟨nd, rfl⟩⟩) | (go_at_call 17; (with_reducible refine (transhumanceref05_Child.calls k 7 3 t142 _ A12.out).mono ?_); rintro e w' ⟨rfl, ⟨nd, rfl⟩⟩))
              go_ret
              exact ⟨by first | rfl | (simp [errW_none, errW_some] <;> rfl) | (simp [*, errW_none, errW_some] <;> rfl), by repeat (first | (with_reducible first | exact HB.out | apply below_alloc | apply pw_below_drewN | apply below_drew1) | exact HB.out)⟩
          · rw [if_neg c10] at H
            have c10b0 : (t140 == 0) = false := beq_eq_false_iff_ne.mpr c10
            have c10b1 : (t140 != 0) = true := bne_iff_ne.mpr c10
            obtain rfl := Option.some.inj H
            go_enter Try.func13, Try.ntmps13
            go_wp2_with (first | ((with_reducible refine gate_callee (f := 14) rfl ?_); refine goesL_ (some 1) rfl rfl Try.func14 (by kernel_rfl) rfl #[.int .i64 0, .int .i64 4294967295] rfl (by (try simp only [List.map_toArray, List.map_cons, List.map_nil]); first | done | rfl | (simp only [List.length_drop, List.length_take]; rfl)) ?_; (with_reducible refine (seed_Mix.calls k 0 4294967295 t136 _ A1.out).mono ?_); rintro e w' ⟨rfl, ⟨nd, rfl⟩⟩; refine ⟨_, rfl, ?_⟩) | (go_at_call 14; (with_reducible refine (seed_Mix.calls k 1 4294967295 t137 _ A3.out).mono ?_); rintro e w' ⟨rfl, ⟨nd, rfl⟩⟩) | (go_at_call 15; (with_reducible refine (transhumanceref05_Mix.calls k 1 4294967295 t138 _ A4.out).mono ?_); rintro e w' ⟨rfl, ⟨nd, rfl⟩⟩) | (go_at_call 14; (with_reducible refine (seed_Mix.calls k (-1) 0 t139 _ A7.out).mono ?_); rintro e w' ⟨rfl, ⟨nd, rfl⟩⟩) | (go_at_call 14; (with_reducible refine (seed_Mix.calls k 0 4294967296 t140 _ A9.out).mono ?_); rintro e w' ⟨rfl, ⟨nd, rfl⟩⟩))
            go_ret
            exact ⟨by first | rfl | (simp [errW_none, errW_some] <;> rfl) | (simp [*, errW_none, errW_some] <;> rfl), by repeat (first | (with_reducible first | exact HB.out | apply below_alloc | apply pw_below_drewN | apply below_drew1) | exact HB.out)⟩
        · rw [if_neg c8] at H
          have c8b0 : (t139 == 0) = false := beq_eq_false_iff_ne.mpr c8
          have c8b1 : (t139 != 0) = true := bne_iff_ne.mpr c8
          obtain rfl := Option.some.inj H
          go_enter Try.func13, Try.ntmps13
          go_wp2_with (first | ((with_reducible refine gate_callee (f := 14) rfl ?_); refine goesL_ (some 1) rfl rfl Try.func14 (by kernel_rfl) rfl #[.int .i64 0, .int .i64 4294967295] rfl (by (try simp only [List.map_toArray, List.map_cons, List.map_nil]); first | done | rfl | (simp only [List.length_drop, List.length_take]; rfl)) ?_; (with_reducible refine (seed_Mix.calls k 0 4294967295 t136 _ A1.out).mono ?_); rintro e w' ⟨rfl, ⟨nd, rfl⟩⟩; refine ⟨_, rfl, ?_⟩) | (go_at_call 14; (with_reducible refine (seed_Mix.calls k 1 4294967295 t137 _ A3.out).mono ?_); rintro e w' ⟨rfl, ⟨nd, rfl⟩⟩) | (go_at_call 15; (with_reducible refine (transhumanceref05_Mix.calls k 1 4294967295 t138 _ A4.out).mono ?_); rintro e w' ⟨rfl, ⟨nd, rfl⟩⟩) | (go_at_call 14; (with_reducible refine (seed_Mix.calls k (-1) 0 t139 _ A7.out).mono ?_); rintro e w' ⟨rfl, ⟨nd, rfl⟩⟩))
          go_ret
          exact ⟨by first | rfl | (simp [errW_none, errW_some] <;> rfl) | (simp [*, errW_none, errW_some] <;> rfl), by repeat (first | (with_reducible first | exact HB.out | apply below_alloc | apply pw_below_drewN | apply below_drew1) | exact HB.out)⟩
    · rw [if_neg c5] at H
      have c5b0 : (t137 == t138) = false := beq_eq_false_iff_ne.mpr c5
      have c5b1 : (t137 != t138) = true := bne_iff_ne.mpr c5
      obtain rfl := Option.some.inj H
      go_enter Try.func13, Try.ntmps13
      go_wp2_with (first | ((with_reducible refine gate_callee (f := 14) rfl ?_); refine goesL_ (some 1) rfl rfl Try.func14 (by kernel_rfl) rfl #[.int .i64 0, .int .i64 4294967295] rfl (by (try simp only [List.map_toArray, List.map_cons, List.map_nil]); first | done | rfl | (simp only [List.length_drop, List.length_take]; rfl)) ?_; (with_reducible refine (seed_Mix.calls k 0 4294967295 t136 _ A1.out).mono ?_); rintro e w' ⟨rfl, ⟨nd, rfl⟩⟩; refine ⟨_, rfl, ?_⟩) | (go_at_call 14; (with_reducible refine (seed_Mix.calls k 1 4294967295 t137 _ A3.out).mono ?_); rintro e w' ⟨rfl, ⟨nd, rfl⟩⟩) | (go_at_call 15; (with_reducible refine (transhumanceref05_Mix.calls k 1 4294967295 t138 _ A4.out).mono ?_); rintro e w' ⟨rfl, ⟨nd, rfl⟩⟩))
      go_ret
      exact ⟨by first | rfl | (simp [errW_none, errW_some] <;> rfl) | (simp [*, errW_none, errW_some] <;> rfl), by repeat (first | (with_reducible first | exact HB.out | apply below_alloc | apply pw_below_drewN | apply below_drew1) | exact HB.out)⟩
  · rw [if_neg c2] at H
    have c2b0 : (t136 == 0) = false := beq_eq_false_iff_ne.mpr c2
    have c2b1 : (t136 != 0) = true := bne_iff_ne.mpr c2
    obtain rfl := Option.some.inj H
    go_enter Try.func13, Try.ntmps13
    go_wp2_with (first | ((with_reducible refine gate_callee (f := 14) rfl ?_); refine goesL_ (some 1) rfl rfl Try.func14 (by kernel_rfl) rfl #[.int .i64 0, .int .i64 4294967295] rfl (by (try simp only [List.map_toArray, List.map_cons, List.map_nil]); first | done | rfl | (simp only [List.length_drop, List.length_take]; rfl)) ?_; (with_reducible refine (seed_Mix.calls k 0 4294967295 t136 _ A1.out).mono ?_); rintro e w' ⟨rfl, ⟨nd, rfl⟩⟩; refine ⟨_, rfl, ?_⟩))
    go_ret
    exact ⟨by first | rfl | (simp [errW_none, errW_some] <;> rfl) | (simp [*, errW_none, errW_some] <;> rfl), by repeat (first | (with_reducible first | exact HB.out | apply below_alloc | apply pw_below_drewN | apply below_drew1) | exact HB.out)⟩

/-! ### transhumanceref04_May: function 21 -/
def transhumanceref04_May.f (a0_0 : Int) (a0_1 : Int) : Option (Bool) := if a0_0 ≥ 0 then (if a0_0 < 251 then (if a0_1 ≥ 0 then (some (decide (a0_1 < 251))) else (some false)) else (some false)) else (some false)
set_option maxHeartbeats 8000000 in
set_option maxRecDepth 100000 in
theorem transhumanceref04_May.calls (a0_0 : Int) (a0_1 : Int) (r : Bool) (w : World) (h : transhumanceref04_May.f a0_0 a0_1 = some r) :
    Calls Try.prog 21 #[.agg #[.int .i64 a0_0, .int .i64 a0_1]] w fun e w' => e = .returned (.bool r) ∧ Below w.heap.size w w' := by
  have hu25 := Try.underlying25
  have HB := Aside0.mk (Below.refl w.heap.size w)
  have H : (if a0_0 ≥ 0 then (if a0_0 < 251 then (if a0_1 ≥ 0 then (some (decide (a0_1 < 251))) else (some false)) else (some false)) else (some false)) = some r := h
  clear h
  by_cases c2 : a0_0 ≥ 0
  · rw [if_pos c2] at H
    have c2b0 : decide (0 ≤ a0_0) = true := decide_eq_true c2
    clear c2
    by_cases c3 : a0_0 < 251
    · rw [if_pos c3] at H
      have c3b0 : decide (a0_0 < 251) = true := decide_eq_true c3
      clear c3
      by_cases c4 : a0_1 ≥ 0
      · rw [if_pos c4] at H
        have c4b0 : decide (0 ≤ a0_1) = true := decide_eq_true c4
        clear c4
        obtain rfl := Option.some.inj H
        go_enter Try.func21, Try.ntmps21
        go_wp2_with (first | ((with_reducible refine gate_dst (N := 1) rfl ?_); refine box_event ?hg (N := 1) ?hd (cs := #[.int .i64 a0_0, .int .i64 a0_1]) (t := 25) ?hr ?_; (case hd => rfl); (case hg => rfl); (case hr => first | (go_simp; done) | (go_simp; rfl)); intro gb151 hg w5 hbox hb; have n0_ := Aside0.mk (below_step (by repeat (first | (with_reducible first | exact HB.out | apply below_alloc | apply pw_below_drewN | apply below_drew1) | exact HB.out)) hb); have n1_ := Aside0.mk (hbox); have n2_ := Aside0.mk ((by rw [hg]; exact (below_size (by repeat (first | (with_reducible first | exact HB.out | apply below_alloc | apply pw_below_drewN | apply below_drew1) | exact HB.out))) : w.heap.size ≤ gb151)); have n3_ := Aside0.mk ((by rw [hg]; exact (below_size (by repeat (first | (with_reducible first | exact HB.out | apply below_alloc | apply pw_below_drewN | apply below_drew1) | exact HB.out))) : w.heap.size ≤ gb151)); clear HB; have HB := n0_; have BK151 := n1_; have GW151 := n2_; have GE151 := n3_; clear n0_ n1_ n2_ n3_; clear hb hbox hg; have hcz6_0 : w5.cell? ⟨gb151, 0, none⟩ = some (.int .i64 a0_0) := (blk_cell BK151.out 0).trans rfl; have hcz6_1 : w5.cell? ⟨gb151, 1, none⟩ = some (.int .i64 a0_1) := (blk_cell BK151.out 1).trans rfl; have hfz6_0 := blk_frozen BK151.out 0; have hfz6_1 := blk_frozen BK151.out 1))
        go_ret
        exact ⟨by first | rfl | (simp [errW_none, errW_some] <;> rfl) | (simp [*, errW_none, errW_some] <;> rfl), by repeat (first | (with_reducible first | exact HB.out | apply below_alloc | apply pw_below_drewN | apply below_drew1 | refine below_set ?_ GE151.out) | exact HB.out)⟩
      · rw [if_neg c4] at H
        have c4b0 : decide (0 ≤ a0_1) = false := decide_eq_false c4
        clear c4
        obtain rfl := Option.some.inj H
        go_enter Try.func21, Try.ntmps21
        go_wp2_with (first | ((with_reducible refine gate_dst (N := 1) rfl ?_); refine box_event ?hg (N := 1) ?hd (cs := #[.int .i64 a0_0, .int .i64 a0_1]) (t := 25) ?hr ?_; (case hd => rfl); (case hg => rfl); (case hr => first | (go_simp; done) | (go_simp; rfl)); intro gb151 hg w7 hbox hb; have n0_ := Aside0.mk (below_step (by repeat (first | (with_reducible first | exact HB.out | apply below_alloc | apply pw_below_drewN | apply below_drew1) | exact HB.out)) hb); have n1_ := Aside0.mk (hbox); have n2_ := Aside0.mk ((by rw [hg]; exact (below_size (by repeat (first | (with_reducible first | exact HB.out | apply below_alloc | apply pw_below_drewN | apply below_drew1) | exact HB.out))) : w.heap.size ≤ gb151)); have n3_ := Aside0.mk ((by rw [hg]; exact (below_size (by repeat (first | (with_reducible first | exact HB.out | apply below_alloc | apply pw_below_drewN | apply below_drew1) | exact HB.out))) : w.heap.size ≤ gb151)); clear HB; have HB := n0_; have BK151 := n1_; have GW151 := n2_; have GE151 := n3_; clear n0_ n1_ n2_ n3_; clear hb hbox hg; have hcz8_0 : w7.cell? ⟨gb151, 0, none⟩ = some (.int .i64 a0_0) := (blk_cell BK151.out 0).trans rfl; have hcz8_1 : w7.cell? ⟨gb151, 1, none⟩ = some (.int .i64 a0_1) := (blk_cell BK151.out 1).trans rfl; have hfz8_0 := blk_frozen BK151.out 0; have hfz8_1 := blk_frozen BK151.out 1))
        go_ret
        exact ⟨by first | rfl | (simp [errW_none, errW_some] <;> rfl) | (simp [*, errW_none, errW_some] <;> rfl), by repeat (first | (with_reducible first | exact HB.out | apply below_alloc | apply pw_below_drewN | apply below_drew1 | refine below_set ?_ GE151.out) | exact HB.out)⟩
    · rw [if_neg c3] at H
      have c3b0 : decide (a0_0 < 251) = false := decide_eq_false c3
      clear c3
      obtain rfl := Option.some.inj H
      go_enter Try.func21, Try.ntmps21
      go_wp2_with (first | ((with_reducible refine gate_dst (N := 1) rfl ?_); refine box_event ?hg (N := 1) ?hd (cs := #[.int .i64 a0_0, .int .i64 a0_1]) (t := 25) ?hr ?_; (case hd => rfl); (case hg => rfl); (case hr => first | (go_simp; done) | (go_simp; rfl)); intro gb151 hg w9 hbox hb; have n0_ := Aside0.mk (below_step (by repeat (first | (with_reducible first | exact HB.out | apply below_alloc | apply pw_below_drewN | apply below_drew1) | exact HB.out)) hb); have n1_ := Aside0.mk (hbox); have n2_ := Aside0.mk ((by rw [hg]; exact (below_size (by repeat (first | (with_reducible first | exact HB.out | apply below_alloc | apply pw_below_drewN | apply below_drew1) | exact HB.out))) : w.heap.size ≤ gb151)); have n3_ := Aside0.mk ((by rw [hg]; exact (below_size (by repeat (first | (with_reducible first | exact HB.out | apply below_alloc | apply pw_below_drewN | apply below_drew1) | exact HB.out))) : w.heap.size ≤ gb151)); clear HB; have HB := n0_; have BK151 := n1_; have GW151 := n2_; have GE151 := n3_; clear n0_ n1_ n2_ n3_; clear hb hbox hg; have hcz10_0 : w9.cell? ⟨gb151, 0, none⟩ = some (.int .i64 a0_0) := (blk_cell BK151.out 0).trans rfl; have hcz10_1 : w9.cell? ⟨gb151, 1, none⟩ = some (.int .i64 a0_1) := (blk_cell BK151.out 1).trans rfl; have hfz10_0 := blk_frozen BK151.out 0; have hfz10_1 := blk_frozen BK151.out 1))
      go_ret
      exact ⟨by first | rfl | (simp [errW_none, errW_some] <;> rfl) | (simp [*, errW_none, errW_some] <;> rfl), by repeat (first | (with_reducible first | exact HB.out | apply below_alloc | apply pw_below_drewN | apply below_drew1 | refine below_set ?_ GE151.out) | exact HB.out)⟩
  · rw [if_neg c2] at H
    have c2b0 : decide (0 ≤ a0_0) = false := decide_eq_false c2
    clear c2
    obtain rfl := Option.some.inj H
    go_enter Try.func21, Try.ntmps21
    go_wp2_with (first | ((with_reducible refine gate_dst (N := 1) rfl ?_); refine box_event ?hg (N := 1) ?hd (cs := #[.int .i64 a0_0, .int .i64 a0_1]) (t := 25) ?hr ?_; (case hd => rfl); (case hg => rfl); (case hr => first | (go_simp; done) | (go_simp; rfl)); intro gb151 hg w11 hbox hb; have n0_ := Aside0.mk (below_step (by repeat (first | (with_reducible first | exact HB.out | apply below_alloc | apply pw_below_drewN | apply below_drew1) | exact HB.out)) hb); have n1_ := Aside0.mk (hbox); have n2_ := Aside0.mk ((by rw [hg]; exact (below_size (by repeat (first | (with_reducible first | exact HB.out | apply below_alloc | apply pw_below_drewN | apply below_drew1) | exact HB.out))) : w.heap.size ≤ gb151)); have n3_ := Aside0.mk ((by rw [hg]; exact (below_size (by repeat (first | (with_reducible first | exact HB.out | apply below_alloc | apply pw_below_drewN | apply below_drew1) | exact HB.out))) : w.heap.size ≤ gb151)); clear HB; have HB := n0_; have BK151 := n1_; have GW151 := n2_; have GE151 := n3_; clear n0_ n1_ n2_ n3_; clear hb hbox hg; have hcz12_0 : w11.cell? ⟨gb151, 0, none⟩ = some (.int .i64 a0_0) := (blk_cell BK151.out 0).trans rfl; have hcz12_1 : w11.cell? ⟨gb151, 1, none⟩ = some (.int .i64 a0_1) := (blk_cell BK151.out 1).trans rfl; have hfz12_0 := blk_frozen BK151.out 0; have hfz12_1 := blk_frozen BK151.out 1))
    go_ret
    exact ⟨by first | rfl | (simp [errW_none, errW_some] <;> rfl) | (simp [*, errW_none, errW_some] <;> rfl), by repeat (first | (with_reducible first | exact HB.out | apply below_alloc | apply pw_below_drewN | apply below_drew1 | refine below_set ?_ GE151.out) | exact HB.out)⟩

end Go.Proofs.Ytlkmomkpdmmjkaa.PSeedDraws
