-- Laid by wip/printx.py, over the print of the kit.
import Derived.Test.YthhojifpogghlaaPAllx0
namespace Go.Proofs.Ythhojifpogghlaa.PAll
open Go.RowKit Go.Proofs.YthhojifpogghlaaW.PrintWords Go.Proofs.YthhojifpogghlaaW.PrintLast Go.Proofs.YthhojifpogghlaaW.PrintMore
attribute [local go_sem] max2_int min2_int max_two min_two max_three min_three max_four min_four   -- for this text's walks alone
set_option linter.unusedVariables false
set_option linter.unusedSimpArgs false

/-! ### num_Fit_int16: function 31 -/
def num_Fit_int16.f (a0 : Int) : Option (Int × Bool) := if (wrap64 (IntKind.i16.wrap (a0))) = a0 then (some (IntKind.i16.wrap (a0), true)) else (some (0, false))
set_option maxHeartbeats 8000000 in
set_option maxRecDepth 100000 in
theorem num_Fit_int16.calls (a0 : Int) (r1 : Int) (r2 : Bool) (w : World) (h : num_Fit_int16.f a0 = some (r1, r2)) :
    Calls Try.prog 31 #[.int .i64 a0] w fun e w' => e = .returned (.tuple #[.int .i16 r1, .bool r2]) ∧ Drawn0 w w' := by
  have H : (if (wrap64 (IntKind.i16.wrap (a0))) = a0 then (some (IntKind.i16.wrap (a0), true)) else (some (0, false))) = some (r1, r2) := h
  clear h
  by_cases c2 : (wrap64 (IntKind.i16.wrap (a0))) = a0
  · rw [if_pos c2] at H
    have c2b0 : ((wrap64 (IntKind.i16.wrap (a0))) == a0) = true := beq_iff_eq.mpr c2
    have c2b1 : ((wrap64 (IntKind.i16.wrap (a0))) != a0) = false := bne_eq_false_iff_eq.mpr c2
    clear c2
    simp only [Option.some.injEq, Prod.mk.injEq] at H
    obtain ⟨rfl, rfl⟩ := H
    go_enter Try.func31, Try.ntmps31
    go_wp2
    go_ret2
    exact ⟨by first | rfl | (simp; done) | (simp [*]; done), by repeat (first | exact Drawn0.refl _ | apply Drawn0.step)⟩
  · rw [if_neg c2] at H
    have c2b0 : ((wrap64 (IntKind.i16.wrap (a0))) == a0) = false := beq_eq_false_iff_ne.mpr c2
    have c2b1 : ((wrap64 (IntKind.i16.wrap (a0))) != a0) = true := bne_iff_ne.mpr c2
    simp only [Option.some.injEq, Prod.mk.injEq] at H
    obtain ⟨rfl, rfl⟩ := H
    go_enter Try.func31, Try.ntmps31
    go_wp2
    go_ret2
    exact ⟨by first | rfl | (simp; done) | (simp [*]; done), by repeat (first | exact Drawn0.refl _ | apply Drawn0.step)⟩

/-! ### num_Fit_int32: function 32 -/
def num_Fit_int32.f (a0 : Int) : Option (Int × Bool) := if (wrap64 (wrap32 (a0))) = a0 then (some (wrap32 (a0), true)) else (some (0, false))
set_option maxHeartbeats 8000000 in
set_option maxRecDepth 100000 in
theorem num_Fit_int32.calls (a0 : Int) (r1 : Int) (r2 : Bool) (w : World) (h : num_Fit_int32.f a0 = some (r1, r2)) :
    Calls Try.prog 32 #[.int .i64 a0] w fun e w' => e = .returned (.tuple #[.int .i32 r1, .bool r2]) ∧ Drawn0 w w' := by
  have H : (if (wrap64 (wrap32 (a0))) = a0 then (some (wrap32 (a0), true)) else (some (0, false))) = some (r1, r2) := h
  clear h
  by_cases c2 : (wrap64 (wrap32 (a0))) = a0
  · rw [if_pos c2] at H
    have c2b0 : ((wrap64 (wrap32 (a0))) == a0) = true := beq_iff_eq.mpr c2
    have c2b1 : ((wrap64 (wrap32 (a0))) != a0) = false := bne_eq_false_iff_eq.mpr c2
    clear c2
    simp only [Option.some.injEq, Prod.mk.injEq] at H
    obtain ⟨rfl, rfl⟩ := H
    go_enter Try.func32, Try.ntmps32
    go_wp2
    go_ret2
    exact ⟨by first | rfl | (simp; done) | (simp [*]; done), by repeat (first | exact Drawn0.refl _ | apply Drawn0.step)⟩
  · rw [if_neg c2] at H
    have c2b0 : ((wrap64 (wrap32 (a0))) == a0) = false := beq_eq_false_iff_ne.mpr c2
    have c2b1 : ((wrap64 (wrap32 (a0))) != a0) = true := bne_iff_ne.mpr c2
    simp only [Option.some.injEq, Prod.mk.injEq] at H
    obtain ⟨rfl, rfl⟩ := H
    go_enter Try.func32, Try.ntmps32
    go_wp2
    go_ret2
    exact ⟨by first | rfl | (simp; done) | (simp [*]; done), by repeat (first | exact Drawn0.refl _ | apply Drawn0.step)⟩

/-! ### num_Fit_uint8: function 33 -/
def num_Fit_uint8.f (a0 : Int) : Option (Int × Bool) := if ((a0) % 256) = a0 then (some ((a0) % 256, true)) else (some (0, false))
set_option maxHeartbeats 8000000 in
set_option maxRecDepth 100000 in
theorem num_Fit_uint8.calls (a0 : Int) (r1 : Int) (r2 : Bool) (w : World) (h : num_Fit_uint8.f a0 = some (r1, r2)) :
    Calls Try.prog 33 #[.int .i64 a0] w fun e w' => e = .returned (.tuple #[.int .u8 r1, .bool r2]) ∧ Drawn0 w w' := by
  have H : (if ((a0) % 256) = a0 then (some ((a0) % 256, true)) else (some (0, false))) = some (r1, r2) := h
  clear h
  by_cases c2 : ((a0) % 256) = a0
  · rw [if_pos c2] at H
    have c2b0 : (((a0) % 256) == a0) = true := beq_iff_eq.mpr c2
    have c2b1 : (((a0) % 256) != a0) = false := bne_eq_false_iff_eq.mpr c2
    clear c2
    simp only [Option.some.injEq, Prod.mk.injEq] at H
    obtain ⟨rfl, rfl⟩ := H
    go_enter Try.func33, Try.ntmps33
    go_wp2
    go_ret2
    exact ⟨by first | rfl | (simp; done) | (simp [*]; done), by repeat (first | exact Drawn0.refl _ | apply Drawn0.step)⟩
  · rw [if_neg c2] at H
    have c2b0 : (((a0) % 256) == a0) = false := beq_eq_false_iff_ne.mpr c2
    have c2b1 : (((a0) % 256) != a0) = true := bne_iff_ne.mpr c2
    simp only [Option.some.injEq, Prod.mk.injEq] at H
    obtain ⟨rfl, rfl⟩ := H
    go_enter Try.func33, Try.ntmps33
    go_wp2
    go_ret2
    exact ⟨by first | rfl | (simp; done) | (simp [*]; done), by repeat (first | exact Drawn0.refl _ | apply Drawn0.step)⟩

end Go.Proofs.Ythhojifpogghlaa.PAll
