-- Written by a program of this session out of the translation (its base: the print program of the kit), in places turned by hand; Lean checks it.
import Derived.Test.YtblfcmjcdclijaaQSx0
namespace Go.Proofs.Ytblfcmjcdclijaa.QS
open Go.RowKit Go.Proofs.YtblfcmjcdclijaaW.PrintWords Go.Proofs.YtblfcmjcdclijaaW.PrintLast Go.Proofs.YtblfcmjcdclijaaW.PrintMore
attribute [local go_sem] max2_int min2_int max_two min_two max_three min_three max_four min_four   -- for this text's walks alone
set_option linter.unusedVariables false
set_option linter.unusedSimpArgs false

/-! ### stratagemref07_pair: function 42 -/
def stratagemref07_pair.f (a0 : Int) (a1 : Int) : Option (Bool) := if a0 = 46 then (if a1 = 46 then (some true) else (if a0 = 33 then (some (a1 == 61)) else (if a0 = 60 then (some (a1 == 61)) else (if a0 = 62 then (some (a1 == 61)) else (some false))))) else (if a0 = 33 then (some (a1 == 61)) else (if a0 = 60 then (some (a1 == 61)) else (if a0 = 62 then (some (a1 == 61)) else (some false))))
set_option maxHeartbeats 8000000 in
set_option maxRecDepth 100000 in
theorem stratagemref07_pair.calls (a0 : Int) (a1 : Int) (r : Bool) (w : World) (h : stratagemref07_pair.f a0 a1 = some r) :
    Calls Try.prog 42 #[.int .u8 a0, .int .u8 a1] w fun e w' => e = .returned (.bool r) ∧ Drawn0 w w' := by
  have H : (if a0 = 46 then (if a1 = 46 then (some true) else (if a0 = 33 then (some (a1 == 61)) else (if a0 = 60 then (some (a1 == 61)) else (if a0 = 62 then (some (a1 == 61)) else (some false))))) else (if a0 = 33 then (some (a1 == 61)) else (if a0 = 60 then (some (a1 == 61)) else (if a0 = 62 then (some (a1 == 61)) else (some false))))) = some r := h
  clear h
  by_cases c3 : a0 = 46
  · rw [if_pos c3] at H
    have c3b0 : (a0 == 46) = true := beq_iff_eq.mpr c3
    have c3b1 : (a0 != 46) = false := bne_eq_false_iff_eq.mpr c3
    clear c3
    by_cases c4 : a1 = 46
    · rw [if_pos c4] at H
      have c4b0 : (a1 == 46) = true := beq_iff_eq.mpr c4
      have c4b1 : (a1 != 46) = false := bne_eq_false_iff_eq.mpr c4
      clear c4
      obtain rfl := Option.some.inj H
      go_enter Try.func42, Try.ntmps42
      go_wp2
      go_ret
      exact ⟨by first | rfl | (simp; done) | (simp [*]; done), by repeat (first | exact Drawn0.refl _ | apply Drawn0.step)⟩
    · rw [if_neg c4] at H
      have c4b0 : (a1 == 46) = false := beq_eq_false_iff_ne.mpr c4
      have c4b1 : (a1 != 46) = true := bne_iff_ne.mpr c4
      by_cases c5 : a0 = 33
      · rw [if_pos c5] at H
        have c5b0 : (a0 == 33) = true := beq_iff_eq.mpr c5
        have c5b1 : (a0 != 33) = false := bne_eq_false_iff_eq.mpr c5
        clear c5
        obtain rfl := Option.some.inj H
        go_enter Try.func42, Try.ntmps42
        go_wp2
        go_ret
        exact ⟨by first | rfl | (simp; done) | (simp [*]; done), by repeat (first | exact Drawn0.refl _ | apply Drawn0.step)⟩
      · rw [if_neg c5] at H
        have c5b0 : (a0 == 33) = false := beq_eq_false_iff_ne.mpr c5
        have c5b1 : (a0 != 33) = true := bne_iff_ne.mpr c5
        by_cases c6 : a0 = 60
        · rw [if_pos c6] at H
          have c6b0 : (a0 == 60) = true := beq_iff_eq.mpr c6
          have c6b1 : (a0 != 60) = false := bne_eq_false_iff_eq.mpr c6
          clear c6
          obtain rfl := Option.some.inj H
          go_enter Try.func42, Try.ntmps42
          go_wp2
          go_ret
          exact ⟨by first | rfl | (simp; done) | (simp [*]; done), by repeat (first | exact Drawn0.refl _ | apply Drawn0.step)⟩
        · rw [if_neg c6] at H
          have c6b0 : (a0 == 60) = false := beq_eq_false_iff_ne.mpr c6
          have c6b1 : (a0 != 60) = true := bne_iff_ne.mpr c6
          by_cases c7 : a0 = 62
          · rw [if_pos c7] at H
            have c7b0 : (a0 == 62) = true := beq_iff_eq.mpr c7
            have c7b1 : (a0 != 62) = false := bne_eq_false_iff_eq.mpr c7
            clear c7
            obtain rfl := Option.some.inj H
            go_enter Try.func42, Try.ntmps42
            go_wp2
            go_ret
            exact ⟨by first | rfl | (simp; done) | (simp [*]; done), by repeat (first | exact Drawn0.refl _ | apply Drawn0.step)⟩
          · rw [if_neg c7] at H
            have c7b0 : (a0 == 62) = false := beq_eq_false_iff_ne.mpr c7
            have c7b1 : (a0 != 62) = true := bne_iff_ne.mpr c7
            obtain rfl := Option.some.inj H
            go_enter Try.func42, Try.ntmps42
            go_wp2
            go_ret
            exact ⟨by first | rfl | (simp; done) | (simp [*]; done), by repeat (first | exact Drawn0.refl _ | apply Drawn0.step)⟩
  · rw [if_neg c3] at H
    have c3b0 : (a0 == 46) = false := beq_eq_false_iff_ne.mpr c3
    have c3b1 : (a0 != 46) = true := bne_iff_ne.mpr c3
    by_cases c8 : a0 = 33
    · rw [if_pos c8] at H
      have c8b0 : (a0 == 33) = true := beq_iff_eq.mpr c8
      have c8b1 : (a0 != 33) = false := bne_eq_false_iff_eq.mpr c8
      clear c8
      obtain rfl := Option.some.inj H
      go_enter Try.func42, Try.ntmps42
      go_wp2
      go_ret
      exact ⟨by first | rfl | (simp; done) | (simp [*]; done), by repeat (first | exact Drawn0.refl _ | apply Drawn0.step)⟩
    · rw [if_neg c8] at H
      have c8b0 : (a0 == 33) = false := beq_eq_false_iff_ne.mpr c8
      have c8b1 : (a0 != 33) = true := bne_iff_ne.mpr c8
      by_cases c9 : a0 = 60
      · rw [if_pos c9] at H
        have c9b0 : (a0 == 60) = true := beq_iff_eq.mpr c9
        have c9b1 : (a0 != 60) = false := bne_eq_false_iff_eq.mpr c9
        clear c9
        obtain rfl := Option.some.inj H
        go_enter Try.func42, Try.ntmps42
        go_wp2
        go_ret
        exact ⟨by first | rfl | (simp; done) | (simp [*]; done), by repeat (first | exact Drawn0.refl _ | apply Drawn0.step)⟩
      · rw [if_neg c9] at H
        have c9b0 : (a0 == 60) = false := beq_eq_false_iff_ne.mpr c9
        have c9b1 : (a0 != 60) = true := bne_iff_ne.mpr c9
        by_cases c10 : a0 = 62
        · rw [if_pos c10] at H
          have c10b0 : (a0 == 62) = true := beq_iff_eq.mpr c10
          have c10b1 : (a0 != 62) = false := bne_eq_false_iff_eq.mpr c10
          clear c10
          obtain rfl := Option.some.inj H
          go_enter Try.func42, Try.ntmps42
          go_wp2
          go_ret
          exact ⟨by first | rfl | (simp; done) | (simp [*]; done), by repeat (first | exact Drawn0.refl _ | apply Drawn0.step)⟩
        · rw [if_neg c10] at H
          have c10b0 : (a0 == 62) = false := beq_eq_false_iff_ne.mpr c10
          have c10b1 : (a0 != 62) = true := bne_iff_ne.mpr c10
          obtain rfl := Option.some.inj H
          go_enter Try.func42, Try.ntmps42
          go_wp2
          go_ret
          exact ⟨by first | rfl | (simp; done) | (simp [*]; done), by repeat (first | exact Drawn0.refl _ | apply Drawn0.step)⟩

end Go.Proofs.Ytblfcmjcdclijaa.QS
