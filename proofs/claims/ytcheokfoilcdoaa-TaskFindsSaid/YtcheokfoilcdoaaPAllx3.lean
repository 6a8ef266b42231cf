-- Laid by wip/printx.py, over the print of the kit.
import Derived.Test.YtcheokfoilcdoaaPAllx0
import Derived.Test.YtcheokfoilcdoaaPAllx2
namespace Go.Proofs.Ytcheokfoilcdoaa.PAll
open Go.RowKit Go.Proofs.YtcheokfoilcdoaaW.PrintWords Go.Proofs.YtcheokfoilcdoaaW.PrintLast Go.Proofs.YtcheokfoilcdoaaW.PrintMore
attribute [local go_sem] max2_int min2_int max_two min_two max_three min_three max_four min_four   -- for this text's walks alone
set_option linter.unusedVariables false
set_option linter.unusedSimpArgs false

/-! ### cadencyref04_turns: function 21 -/
def cadencyref04_turns.f (a0 : Int) (a1 : Int) : Option (Int) := if a0 > 2 then (if a0 = 0 then (none) else ((cadencyref04_rest.f (wrap64 (Int.tdiv a1 a0)) 2).bind fun t120 => (if t120 = 1 then (some (wrap64 (a0 - 1))) else (some 1)))) else (some 1)
set_option maxHeartbeats 8000000 in
set_option maxRecDepth 100000 in
theorem cadencyref04_turns.calls (a0 : Int) (a1 : Int) (r : Int) (w : World) (h : cadencyref04_turns.f a0 a1 = some r) :
    Calls Try.prog 21 #[.int .i64 a0, .int .i64 a1] w fun e w' => e = .returned (.int .i64 r) ∧ Drawn0 w w' := by
  have H : (if a0 > 2 then (if a0 = 0 then (none) else ((cadencyref04_rest.f (wrap64 (Int.tdiv a1 a0)) 2).bind fun t120 => (if t120 = 1 then (some (wrap64 (a0 - 1))) else (some 1)))) else (some 1)) = some r := h
  clear h
  by_cases c3 : a0 > 2
  · rw [if_pos c3] at H
    have c3b0 : decide (2 < a0) = true := decide_eq_true c3
    clear c3
    by_cases c4 : a0 = 0
    · rw [if_pos c4] at H
      exact absurd H (by simp)
    · rw [if_neg c4] at H
      have c4b0 : (a0 == 0) = false := beq_eq_false_iff_ne.mpr c4
      have c4b1 : (a0 != 0) = true := bne_iff_ne.mpr c4
      replace H := Option.bind_eq_some_iff.mp H
      obtain ⟨t120, A50, H⟩ := H
      replace H : (if t120 = 1 then (some (wrap64 (a0 - 1))) else (some 1)) = some r := H
      have A5 := Aside0.mk A50
      clear A50
      by_cases c6 : t120 = 1
      · rw [if_pos c6] at H
        have c6b0 : (t120 == 1) = true := beq_iff_eq.mpr c6
        have c6b1 : (t120 != 1) = false := bne_eq_false_iff_eq.mpr c6
        clear c6
        obtain rfl := Option.some.inj H
        go_enter Try.func21, Try.ntmps21
        go_wp2_with (first | (go_at_call 20; (with_reducible refine (cadencyref04_rest.calls (wrap64 (Int.tdiv a1 a0)) 2 t120 _ A5.out).mono ?_); rintro e w' ⟨rfl, ⟨nd, rfl⟩⟩))
        go_ret
        exact ⟨by first | rfl | (simp; done) | (simp [*]; done), by repeat (first | exact Drawn0.refl _ | apply Drawn0.step)⟩
      · rw [if_neg c6] at H
        have c6b0 : (t120 == 1) = false := beq_eq_false_iff_ne.mpr c6
        have c6b1 : (t120 != 1) = true := bne_iff_ne.mpr c6
        obtain rfl := Option.some.inj H
        go_enter Try.func21, Try.ntmps21
        go_wp2_with (first | (go_at_call 20; (with_reducible refine (cadencyref04_rest.calls (wrap64 (Int.tdiv a1 a0)) 2 t120 _ A5.out).mono ?_); rintro e w' ⟨rfl, ⟨nd, rfl⟩⟩))
        go_ret
        exact ⟨by first | rfl | (simp; done) | (simp [*]; done), by repeat (first | exact Drawn0.refl _ | apply Drawn0.step)⟩
  · rw [if_neg c3] at H
    have c3b0 : decide (2 < a0) = false := decide_eq_false c3
    clear c3
    obtain rfl := Option.some.inj H
    go_enter Try.func21, Try.ntmps21
    go_wp2
    go_ret
    exact ⟨by first | rfl | (simp; done) | (simp [*]; done), by repeat (first | exact Drawn0.refl _ | apply Drawn0.step)⟩

end Go.Proofs.Ytcheokfoilcdoaa.PAll
