-- Laid by wip/printx.py, over the print of the kit.
import Derived.Test.YthhojifpogghlaaPChainsx0
import Derived.Test.YthhojifpogghlaaPChainsx2
import Derived.Test.YthhojifpogghlaaPChainsx5
import Derived.Test.YthhojifpogghlaaPChainsx7
import Derived.Test.YthhojifpogghlaaPChainsx8
namespace Go.Proofs.Ythhojifpogghlaa.PChains
open Go.RowKit Go.Proofs.YthhojifpogghlaaW.PrintWords Go.Proofs.YthhojifpogghlaaW.PrintLast Go.Proofs.YthhojifpogghlaaW.PrintMore
attribute [local go_sem] max2_int min2_int max_two min_two max_three min_three max_four min_four   -- for this text's walks alone
set_option linter.unusedVariables false
set_option linter.unusedSimpArgs false

/-! ### cadencylaw01_awake: function 11 -/
def cadencylaw01_awake.f (k : Nat)  : Option (Bool) := (num_Ceil.f 7 2).bind fun bt110 => ((num_Lcm.f k 4 6).bind fun bt112 => ((num_Shift.f 5 (-1)).bind fun bt114 => ((num_Fit_int8.f 128).bind fun bt116 => (if bt110.1 = 4 then (if bt110.2 = true then (if bt112.1 = 12 then (if bt112.2 = true then (if bt114.1 = 2 then (if bt114.2 = true then ((num_Sum.f k 18446744073709551615 (([2] : List Int))).bind fun t121 => (if t121 = 18446744073709551615 then (some (!bt116.2)) else (none))) else (none)) else (none)) else (none)) else (none)) else (none)) else (none)))))
theorem cadencylaw01_awake.mono : ∀ k, LeO (cadencylaw01_awake.f k ) (cadencylaw01_awake.f (k + 1) ) := by
  intro  k
  unfold cadencylaw01_awake.f
  repeat' first
      | (with_reducible exact num_Lcm.mono _ _ _)
      | (with_reducible exact num_Sum.mono _ _ _)
      | (with_reducible exact LeO.refl _)
      | (with_reducible exact LeO.none _)
      | (with_reducible refine LeO.ite ?_ ?_)
      | (with_reducible refine LeO.bind ?_ (fun _ => ?_))
      | exact num_Lcm.mono _ _ _
      | exact num_Sum.mono _ _ _
      | exact LeO.none _
      | refine LeO.ite ?_ ?_
      | refine LeO.bind ?_ (fun _ => ?_)
set_option maxHeartbeats 8000000 in
set_option maxRecDepth 100000 in
theorem cadencylaw01_awake.calls (k : Nat)  (r : Bool) (w : World) (h : cadencylaw01_awake.f k  = some r) :
    Calls Try.prog 11 #[] w fun e w' => e = .returned (.bool r) ∧ Below w.heap.size w w' := by
  have HB := Aside0.mk (Below.refl w.heap.size w)
  have H : ((num_Ceil.f 7 2).bind fun bt110 => ((num_Lcm.f k 4 6).bind fun bt112 => ((num_Shift.f 5 (-1)).bind fun bt114 => ((num_Fit_int8.f 128).bind fun bt116 => (if bt110.1 = 4 then (if bt110.2 = true then (if bt112.1 = 12 then (if bt112.2 = true then (if bt114.1 = 2 then (if bt114.2 = true then ((num_Sum.f k 18446744073709551615 (([2] : List Int))).bind fun t121 => (if t121 = 18446744073709551615 then (some (!bt116.2)) else (none))) else (none)) else (none)) else (none)) else (none)) else (none)) else (none)))))) = some r := h
  clear h
  replace H := Option.bind_eq_some_iff.mp H
  obtain ⟨⟨t110, t111⟩, A10, H⟩ := H
  replace H : ((num_Lcm.f k 4 6).bind fun bt112 => ((num_Shift.f 5 (-1)).bind fun bt114 => ((num_Fit_int8.f 128).bind fun bt116 => (if t110 = 4 then (if t111 = true then (if bt112.1 = 12 then (if bt112.2 = true then (if bt114.1 = 2 then (if bt114.2 = true then ((num_Sum.f k 18446744073709551615 (([2] : List Int))).bind fun t121 => (if t121 = 18446744073709551615 then (some (!bt116.2)) else (none))) else (none)) else (none)) else (none)) else (none)) else (none)) else (none))))) = some r := H
  have A1 := Aside0.mk A10
  clear A10
  replace H := Option.bind_eq_some_iff.mp H
  obtain ⟨⟨t112, t113⟩, A20, H⟩ := H
  replace H : ((num_Shift.f 5 (-1)).bind fun bt114 => ((num_Fit_int8.f 128).bind fun bt116 => (if t110 = 4 then (if t111 = true then (if t112 = 12 then (if t113 = true then (if bt114.1 = 2 then (if bt114.2 = true then ((num_Sum.f k 18446744073709551615 (([2] : List Int))).bind fun t121 => (if t121 = 18446744073709551615 then (some (!bt116.2)) else (none))) else (none)) else (none)) else (none)) else (none)) else (none)) else (none)))) = some r := H
  have A2 := Aside0.mk A20
  clear A20
  replace H := Option.bind_eq_some_iff.mp H
  obtain ⟨⟨t114, t115⟩, A30, H⟩ := H
  replace H : ((num_Fit_int8.f 128).bind fun bt116 => (if t110 = 4 then (if t111 = true then (if t112 = 12 then (if t113 = true then (if t114 = 2 then (if t115 = true then ((num_Sum.f k 18446744073709551615 (([2] : List Int))).bind fun t121 => (if t121 = 18446744073709551615 then (some (!bt116.2)) else (none))) else (none)) else (none)) else (none)) else (none)) else (none)) else (none))) = some r := H
  have A3 := Aside0.mk A30
  clear A30
  replace H := Option.bind_eq_some_iff.mp H
  obtain ⟨⟨t116, t117⟩, A40, H⟩ := H
  replace H : (if t110 = 4 then (if t111 = true then (if t112 = 12 then (if t113 = true then (if t114 = 2 then (if t115 = true then ((num_Sum.f k 18446744073709551615 (([2] : List Int))).bind fun t121 => (if t121 = 18446744073709551615 then (some (!t117)) else (none))) else (none)) else (none)) else (none)) else (none)) else (none)) else (none)) = some r := H
  have A4 := Aside0.mk A40
  clear A40
  by_cases c5 : t110 = 4
  · rw [if_pos c5] at H
    have c5b0 : (t110 == 4) = true := beq_iff_eq.mpr c5
    have c5b1 : (t110 != 4) = false := bne_eq_false_iff_eq.mpr c5
    clear c5
    by_cases c6 : t111 = true
    · subst c6
      have H1 : (if t112 = 12 then (if t113 = true then (if t114 = 2 then (if t115 = true then ((num_Sum.f k 18446744073709551615 (([2] : List Int))).bind fun t121 => (if t121 = 18446744073709551615 then (some (!t117)) else (none))) else (none)) else (none)) else (none)) else (none)) = some r := by rw [if_pos rfl] at H; exact H
      clear H
      have H := H1
      clear H1
      by_cases c7 : t112 = 12
      · rw [if_pos c7] at H
        have c7b0 : (t112 == 12) = true := beq_iff_eq.mpr c7
        have c7b1 : (t112 != 12) = false := bne_eq_false_iff_eq.mpr c7
        clear c7
        by_cases c8 : t113 = true
        · subst c8
          have H1 : (if t114 = 2 then (if t115 = true then ((num_Sum.f k 18446744073709551615 (([2] : List Int))).bind fun t121 => (if t121 = 18446744073709551615 then (some (!t117)) else (none))) else (none)) else (none)) = some r := by rw [if_pos rfl] at H; exact H
          clear H
          have H := H1
          clear H1
          by_cases c9 : t114 = 2
          · rw [if_pos c9] at H
            have c9b0 : (t114 == 2) = true := beq_iff_eq.mpr c9
            have c9b1 : (t114 != 2) = false := bne_eq_false_iff_eq.mpr c9
            clear c9
            by_cases c10 : t115 = true
            · subst c10
              have H1 : ((num_Sum.f k 18446744073709551615 (([2] : List Int))).bind fun t121 => (if t121 = 18446744073709551615 then (some (!t117)) else (none))) = some r := by rw [if_pos rfl] at H; exact H
              clear H
              have H := H1
              clear H1
              obtain ⟨y118, hy118⟩ : ∃ y_ : List Int, y_ = (([2] : List Int)) := ⟨_, rfl⟩
              replace H : ((num_Sum.f k 18446744073709551615 y118).bind fun t121 => (if t121 = 18446744073709551615 then (some (!t117)) else (none))) = some r := by first | (rw [hy118]; with_reducible exact H) | (have H2_ := (Option.bind_some _ _).symm.trans H; rw [hy118]; with_reducible exact H2_) | (have H2_ := (Option.bind_some _ _).symm.trans H; with_reducible exact H2_) | with_reducible exact H | (rw [hy118]; exact H) | exact H
              have Ny118 := Aside0.mk hy118
              clear hy118
              replace H := Option.bind_eq_some_iff.mp H
              obtain ⟨t121, A110, H⟩ := H
              replace H : (if t121 = 18446744073709551615 then (some (!t117)) else (none)) = some r := H
              have A11 := Aside0.mk A110
              clear A110
              by_cases c12 : t121 = 18446744073709551615
              · rw [if_pos c12] at H
                have c12b0 : (t121 == 18446744073709551615) = true := beq_iff_eq.mpr c12
                have c12b1 : (t121 != 18446744073709551615) = false := bne_eq_false_iff_eq.mpr c12
                clear c12
                obtain rfl := Option.some.inj H
                go_enter Try.func11, Try.ntmps11
                go_wp2_with (first | ((with_reducible refine gate_callee (f := 19) rfl ?_); refine goesL_ (some 10) rfl rfl Try.func19 (by kernel_rfl) rfl #[.int .u64 7, .int .u64 2] rfl (by (try simp only [List.map_toArray, List.map_cons, List.map_nil]); first | done | rfl | (simp only [List.length_drop, List.length_take]; rfl)) ?_; (with_reducible refine (num_Ceil.calls 7 2 t110 true _ A1.out).mono ?_); rintro e w' ⟨rfl, ⟨nd, rfl⟩⟩; refine ⟨_, rfl, ?_⟩) | ((with_reducible refine gate_callee (f := 15) rfl ?_); refine goesL_ (some 14) rfl rfl Try.func15 (by kernel_rfl) rfl #[.int .u64 4, .int .u64 6] rfl (by (try simp only [List.map_toArray, List.map_cons, List.map_nil]); first | done | rfl | (simp only [List.length_drop, List.length_take]; rfl)) ?_; (with_reducible refine (num_Lcm.calls k 4 6 t112 true _ A2.out).mono ?_); rintro e w' ⟨rfl, ⟨nd, rfl⟩⟩; refine ⟨_, rfl, ?_⟩) | ((with_reducible refine gate_callee (f := 12) rfl ?_); refine goesL_ (some 18) rfl rfl Try.func12 (by kernel_rfl) rfl #[.int .u64 5, .int .i64 (-1)] rfl (by (try simp only [List.map_toArray, List.map_cons, List.map_nil]); first | done | rfl | (simp only [List.length_drop, List.length_take]; rfl)) ?_; (with_reducible refine (num_Shift.calls 5 (-1) t114 true _ A3.out).mono ?_); rintro e w' ⟨rfl, ⟨nd, rfl⟩⟩; refine ⟨_, rfl, ?_⟩) | ((with_reducible refine gate_callee (f := 25) rfl ?_); refine goesL_ (some 22) rfl rfl Try.func25 (by kernel_rfl) rfl #[.int .i64 128] rfl (by (try simp only [List.map_toArray, List.map_cons, List.map_nil]); first | done | rfl | (simp only [List.length_drop, List.length_take]; rfl)) ?_; (with_reducible refine (num_Fit_int8.calls 128 t116 t117 _ A4.out).mono ?_); rintro e w' ⟨rfl, ⟨nd, rfl⟩⟩; refine ⟨_, rfl, ?_⟩) | ((with_reducible refine gate_dst (N := 45) rfl ?_); (try (refine gate_guard (by rfl) ?_; dsimp only)); refine Kd.R_lit (Kd.int .u64) _ 22 ?hg (N := 45) ?hd (xs := ([2] : List Int)) (inner := [.int .u64 2]) (ok := fun _ => True) (okp := fun _ => True) ?hr ?hp (fun _ hk => hk) trivial (Below.refl _ _) (Nat.le_refl _) (by simp) ?_; (case hd => rfl); (case hg => rfl); (case hr => first | (go_simp; done) | (go_simp; rfl)); (case hp => exact (Reps.one (show Kd.M (Kd.int .u64) _ _ _ 2 [.int .u64 2] from rfl) (Reps.none _ _))); intro v119 w13 ho14 hb hg_ hnew_; clear hg_ hnew_; (first | rw [← Ny118.out] at ho14 | (simp only [Int.reduceToNat] at ho14; rw [← Ny118.out] at ho14)); have n0_ := Aside0.mk (Kd.R_lower ho14 (below_size (by repeat (first | (with_reducible first | exact HB.out | apply below_alloc | apply pw_below_drewN | apply below_drew1) | exact HB.out)))); have n1_ := Aside0.mk (below_step (by repeat (first | (with_reducible first | exact HB.out | apply below_alloc | apply pw_below_drewN | apply below_drew1) | exact HB.out)) hb); clear HB; have HO120 := n0_; have HB := n1_; clear n0_ n1_; clear hb ho14; obtain ⟨Ao15, co15, eo15⟩ := Kd.R_slice HO120.out; subst eo15) | (go_at_call 17; (with_reducible refine (num_Sum.calls k 18446744073709551615 _ _ y118 t121 _ ?side1 ?side2 A11.out).mono ?_); (case side1 => repeat (first | exact (Kd.R_reads' HO120.out).2.2 | (with_reducible refine Kd.C_alloc ?_ _) | (with_reducible refine Kd.C_drewN ?_ _) | (with_reducible refine Kd.C_drew ?_))); (case side2 => exact (Kd.R_reads' HO120.out).2.1); rintro e w' ⟨rfl, ⟨nd, rfl⟩⟩))
                go_ret
                exact ⟨by first | rfl | (simp [errW_none, errW_some] <;> rfl) | (simp [*, errW_none, errW_some] <;> rfl), by repeat (first | (with_reducible first | exact HB.out | apply below_alloc | apply pw_below_drewN | apply below_drew1) | exact HB.out)⟩
              · rw [if_neg c12] at H
                exact absurd H (by simp)
            · replace c10 := Bool.eq_false_iff.mpr c10
              subst c10
              have H1 : (none) = some r := by rw [if_neg (show ¬ (false = true) by decide)] at H; exact H
              clear H
              have H := H1
              clear H1
              exact absurd H (by simp)
          · rw [if_neg c9] at H
            exact absurd H (by simp)
        · replace c8 := Bool.eq_false_iff.mpr c8
          subst c8
          have H1 : (none) = some r := by rw [if_neg (show ¬ (false = true) by decide)] at H; exact H
          clear H
          have H := H1
          clear H1
          exact absurd H (by simp)
      · rw [if_neg c7] at H
        exact absurd H (by simp)
    · replace c6 := Bool.eq_false_iff.mpr c6
      subst c6
      have H1 : (none) = some r := by rw [if_neg (show ¬ (false = true) by decide)] at H; exact H
      clear H
      have H := H1
      clear H1
      exact absurd H (by simp)
  · rw [if_neg c5] at H
    exact absurd H (by simp)

end Go.Proofs.Ythhojifpogghlaa.PChains
