-- Laid by wip/printx.py, over the print of the kit.
import Derived.Test.YthhojifpogghlaaPChainsx0
import Derived.Test.YthhojifpogghlaaPChainsx1
namespace Go.Proofs.Ythhojifpogghlaa.PChains
open Go.RowKit Go.Proofs.YthhojifpogghlaaW.PrintWords Go.Proofs.YthhojifpogghlaaW.PrintLast Go.Proofs.YthhojifpogghlaaW.PrintMore
attribute [local go_sem] max2_int min2_int max_two min_two max_three min_three max_four min_four   -- for this text's walks alone
set_option linter.unusedVariables false
set_option linter.unusedSimpArgs false

/-! ### num_Shift: function 12 -/
def num_Shift.f (a0 : Int) (a1 : Int) : Option (Int × Bool) := if a1 ≤ (-64) then (some (0, true)) else (if a1 < 0 then (if 0 ≤ (IntKind.u64.wrap (wrap64 (-a1))) then (some (shr .u64 a0 (IntKind.u64.wrap (wrap64 (-a1))), true)) else (none)) else (if a0 = 0 then (some (0, true)) else ((bits_LeadingZeros64.f a0).bind fun t101 => (if a1 > t101 then (some (0, false)) else (if 0 ≤ (IntKind.u64.wrap (a1)) then (some (shl .u64 a0 (IntKind.u64.wrap (a1)), true)) else (none))))))
set_option maxHeartbeats 8000000 in
set_option maxRecDepth 100000 in
theorem num_Shift.calls (a0 : Int) (a1 : Int) (r1 : Int) (r2 : Bool) (w : World) (h : num_Shift.f a0 a1 = some (r1, r2)) :
    Calls Try.prog 12 #[.int .u64 a0, .int .i64 a1] w fun e w' => e = .returned (.tuple #[.int .u64 r1, .bool r2]) ∧ Drawn0 w w' := by
  have H : (if a1 ≤ (-64) then (some (0, true)) else (if a1 < 0 then (if 0 ≤ (IntKind.u64.wrap (wrap64 (-a1))) then (some (shr .u64 a0 (IntKind.u64.wrap (wrap64 (-a1))), true)) else (none)) else (if a0 = 0 then (some (0, true)) else ((bits_LeadingZeros64.f a0).bind fun t101 => (if a1 > t101 then (some (0, false)) else (if 0 ≤ (IntKind.u64.wrap (a1)) then (some (shl .u64 a0 (IntKind.u64.wrap (a1)), true)) else (none))))))) = some (r1, r2) := h
  clear h
  by_cases c3 : a1 ≤ (-64)
  · rw [if_pos c3] at H
    have c3b0 : decide (a1 ≤ (-64)) = true := decide_eq_true c3
    clear c3
    simp only [Option.some.injEq, Prod.mk.injEq] at H
    obtain ⟨rfl, rfl⟩ := H
    go_enter Try.func12, Try.ntmps12
    go_wp2
    go_ret2
    exact ⟨by first | rfl | (simp; done) | (simp [*]; done), by repeat (first | exact Drawn0.refl _ | apply Drawn0.step)⟩
  · rw [if_neg c3] at H
    have c3b0 : decide (a1 ≤ (-64)) = false := decide_eq_false c3
    clear c3
    by_cases c4 : a1 < 0
    · rw [if_pos c4] at H
      have c4b0 : decide (a1 < 0) = true := decide_eq_true c4
      clear c4
      obtain ⟨ji5, hji5⟩ : ∃ j_ : Int, (IntKind.u64.wrap (wrap64 (-a1))) = j_ := ⟨_, rfl⟩
      replace H : (if 0 ≤ (ji5) then (some (shr .u64 a0 (ji5), true)) else (none)) = some (r1, r2) := by first | (rw [hji5] at H; exact H) | (simp only [hji5] at H ⊢; exact H)
      by_cases c6 : 0 ≤ (ji5)
      · rw [if_pos c6] at H
        have c6b0 := eq_true c6
        have c6b1 : decide (0 ≤ (ji5)) = true := decide_eq_true c6
        clear c6
        obtain ⟨ji7, hji7⟩ : ∃ j_ : Int, (shr .u64 a0 (ji5)) = j_ := ⟨_, rfl⟩
        replace H : (some (ji7, true)) = some (r1, r2) := by first | (rw [hji7] at H; exact H) | (simp only [hji7] at H ⊢; exact H)
        have hji7_ : (a0 / 2 ^ min (ji5).toNat 64) = ji7 := hji7
        have hji7z : (ji5) ≤ 64 → (a0 / 2 ^ (ji5).toNat) = ji7 := shr_small hji7
        simp only [Option.some.injEq, Prod.mk.injEq] at H
        obtain ⟨rfl, rfl⟩ := H
        go_enter Try.func12, Try.ntmps12
        go_wp2
        go_ret2
        exact ⟨by first | rfl | (simp; done) | (simp only [← hji5, ← hji7] <;> (first | rfl | simp)) | (simp [*]; done), by repeat (first | exact Drawn0.refl _ | apply Drawn0.step)⟩
      · rw [if_neg c6] at H
        exact absurd H (by simp)
    · rw [if_neg c4] at H
      have c4b0 : decide (a1 < 0) = false := decide_eq_false c4
      clear c4
      by_cases c8 : a0 = 0
      · rw [if_pos c8] at H
        have c8b0 : (a0 == 0) = true := beq_iff_eq.mpr c8
        have c8b1 : (a0 != 0) = false := bne_eq_false_iff_eq.mpr c8
        clear c8
        simp only [Option.some.injEq, Prod.mk.injEq] at H
        obtain ⟨rfl, rfl⟩ := H
        go_enter Try.func12, Try.ntmps12
        go_wp2
        go_ret2
        exact ⟨by first | rfl | (simp; done) | (simp [*]; done), by repeat (first | exact Drawn0.refl _ | apply Drawn0.step)⟩
      · rw [if_neg c8] at H
        have c8b0 : (a0 == 0) = false := beq_eq_false_iff_ne.mpr c8
        have c8b1 : (a0 != 0) = true := bne_iff_ne.mpr c8
        replace H := Option.bind_eq_some_iff.mp H
        obtain ⟨t101, A90, H⟩ := H
        replace H : (if a1 > t101 then (some (0, false)) else (if 0 ≤ (IntKind.u64.wrap (a1)) then (some (shl .u64 a0 (IntKind.u64.wrap (a1)), true)) else (none))) = some (r1, r2) := H
        have A9 := Aside0.mk A90
        clear A90
        by_cases c10 : a1 > t101
        · rw [if_pos c10] at H
          have c10b0 : decide (t101 < a1) = true := decide_eq_true c10
          clear c10
          simp only [Option.some.injEq, Prod.mk.injEq] at H
          obtain ⟨rfl, rfl⟩ := H
          go_enter Try.func12, Try.ntmps12
          go_wp2_with (first | ((with_reducible refine gate_callee (f := 26) rfl ?_); refine goesL_ (some 23) rfl rfl Try.func26 (by kernel_rfl) rfl #[.int .u64 a0] rfl (by (try simp only [List.map_toArray, List.map_cons, List.map_nil]); first | done | rfl | (simp only [List.length_drop, List.length_take]; rfl)) ?_; (with_reducible refine (bits_LeadingZeros64.calls a0 t101 _ A9.out).mono ?_); rintro e w' ⟨rfl, ⟨nd, rfl⟩⟩; refine ⟨_, rfl, ?_⟩))
          go_ret2
          exact ⟨by first | rfl | (simp; done) | (simp [*]; done), by repeat (first | exact Drawn0.refl _ | apply Drawn0.step)⟩
        · rw [if_neg c10] at H
          have c10b0 : decide (t101 < a1) = false := decide_eq_false c10
          clear c10
          obtain ⟨ji11, hji11⟩ : ∃ j_ : Int, (IntKind.u64.wrap (a1)) = j_ := ⟨_, rfl⟩
          replace H : (if 0 ≤ (ji11) then (some (shl .u64 a0 (ji11), true)) else (none)) = some (r1, r2) := by first | (rw [hji11] at H; exact H) | (simp only [hji11] at H ⊢; exact H)
          (try rw [hji11] at A9)
          by_cases c12 : 0 ≤ (ji11)
          · rw [if_pos c12] at H
            have c12b0 := eq_true c12
            have c12b1 : decide (0 ≤ (ji11)) = true := decide_eq_true c12
            clear c12
            obtain ⟨ji13, hji13⟩ : ∃ j_ : Int, (shl .u64 a0 (ji11)) = j_ := ⟨_, rfl⟩
            replace H : (some (ji13, true)) = some (r1, r2) := by first | (rw [hji13] at H; exact H) | (simp only [hji13] at H ⊢; exact H)
            (try rw [hji13] at A9)
            have hji13_ : (IntKind.u64.wrap (a0 * 2 ^ min (ji11).toNat 64)) = ji13 := hji13
            have hji13z : (ji11) ≤ 64 → (IntKind.u64.wrap (a0 * 2 ^ (ji11).toNat)) = ji13 := shl_small hji13
            simp only [Option.some.injEq, Prod.mk.injEq] at H
            obtain ⟨rfl, rfl⟩ := H
            go_enter Try.func12, Try.ntmps12
            go_wp2_with (first | ((with_reducible refine gate_callee (f := 26) rfl ?_); refine goesL_ (some 23) rfl rfl Try.func26 (by kernel_rfl) rfl #[.int .u64 a0] rfl (by (try simp only [List.map_toArray, List.map_cons, List.map_nil]); first | done | rfl | (simp only [List.length_drop, List.length_take]; rfl)) ?_; (with_reducible refine (bits_LeadingZeros64.calls a0 t101 _ A9.out).mono ?_); rintro e w' ⟨rfl, ⟨nd, rfl⟩⟩; refine ⟨_, rfl, ?_⟩))
            go_ret2
            exact ⟨by first | rfl | (simp; done) | (simp only [← hji11, ← hji13] <;> (first | rfl | simp)) | (simp [*]; done), by repeat (first | exact Drawn0.refl _ | apply Drawn0.step)⟩
          · rw [if_neg c12] at H
            exact absurd H (by simp)

end Go.Proofs.Ythhojifpogghlaa.PChains
