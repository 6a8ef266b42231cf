-- Laid by wip/printx.py, over the print of the kit.
import Derived.Test.YthhojifpogghlaaPAllx0
import Derived.Test.YthhojifpogghlaaPAllx9
import Derived.Test.YthhojifpogghlaaPAllx28
namespace Go.Proofs.Ythhojifpogghlaa.PAll
open Go.RowKit Go.Proofs.YthhojifpogghlaaW.PrintWords Go.Proofs.YthhojifpogghlaaW.PrintLast Go.Proofs.YthhojifpogghlaaW.PrintMore
attribute [local go_sem] max2_int min2_int max_two min_two max_three min_three max_four min_four   -- for this text's walks alone
set_option linter.unusedVariables false
set_option linter.unusedSimpArgs false

/-! ### cadencylaw01_NumTells: function 9 -/
def cadencylaw01_NumTells.f (k : Nat) (a0 : Int) (a1 : Int) (a2 : Int) : Option (Bool) := (cadencylaw01_awake.f k).bind fun t218 => (if t218 = true then ((cadencylaw01_tells.f k a0 a1).bind fun t219 => (if t219 = true then (if 0 ≤ (IntKind.u64.wrap (Go.bits .and .i64 a2 63)) then ((cadencylaw01_tells.f k (shr .u64 a0 (IntKind.u64.wrap (Go.bits .and .i64 a2 63))) a1).bind fun t220 => (if t220 = true then (if 0 ≤ (IntKind.u64.wrap (64 - (IntKind.u64.wrap (Go.bits .and .i64 a2 63)))) then ((cadencylaw01_tells.f k (shr .u64 a0 (IntKind.u64.wrap (Go.bits .and .i64 a2 63))) (shr .u64 a1 (IntKind.u64.wrap (64 - (IntKind.u64.wrap (Go.bits .and .i64 a2 63)))))).bind fun t221 => (if t221 = true then ((cadencylaw01_tells.f k (shr .u64 a1 (IntKind.u64.wrap (Go.bits .and .i64 a2 63))) a0).bind fun t222 => (some t222)) else (none))) else (none)) else (none))) else (none)) else (none))) else (none))
theorem cadencylaw01_NumTells.mono : ∀ a0 a1 a2 k, LeO (cadencylaw01_NumTells.f k a0 a1 a2) (cadencylaw01_NumTells.f (k + 1) a0 a1 a2) := by
  intro a0 a1 a2 k
  unfold cadencylaw01_NumTells.f
  repeat' first
      | (with_reducible exact cadencylaw01_awake.mono _)
      | (with_reducible exact cadencylaw01_tells.mono _ _ _)
      | (with_reducible exact LeO.refl _)
      | (with_reducible exact LeO.none _)
      | (with_reducible refine LeO.ite ?_ ?_)
      | (with_reducible refine LeO.bind ?_ (fun _ => ?_))
      | exact cadencylaw01_awake.mono _
      | exact cadencylaw01_tells.mono _ _ _
      | exact LeO.none _
      | refine LeO.ite ?_ ?_
      | refine LeO.bind ?_ (fun _ => ?_)
set_option maxHeartbeats 8000000 in
set_option maxRecDepth 100000 in
theorem cadencylaw01_NumTells.calls (k : Nat) (a0 : Int) (a1 : Int) (a2 : Int) (r : Bool) (w : World) (h : cadencylaw01_NumTells.f k a0 a1 a2 = some r) :
    Calls Try.prog 9 #[.int .u64 a0, .int .u64 a1, .int .i64 a2] w fun e w' => e = .returned (.bool r) ∧ Below w.heap.size w w' := by
  have HB := Aside0.mk (Below.refl w.heap.size w)
  have H : ((cadencylaw01_awake.f k).bind fun t218 => (if t218 = true then ((cadencylaw01_tells.f k a0 a1).bind fun t219 => (if t219 = true then (if 0 ≤ (IntKind.u64.wrap (Go.bits .and .i64 a2 63)) then ((cadencylaw01_tells.f k (shr .u64 a0 (IntKind.u64.wrap (Go.bits .and .i64 a2 63))) a1).bind fun t220 => (if t220 = true then (if 0 ≤ (IntKind.u64.wrap (64 - (IntKind.u64.wrap (Go.bits .and .i64 a2 63)))) then ((cadencylaw01_tells.f k (shr .u64 a0 (IntKind.u64.wrap (Go.bits .and .i64 a2 63))) (shr .u64 a1 (IntKind.u64.wrap (64 - (IntKind.u64.wrap (Go.bits .and .i64 a2 63)))))).bind fun t221 => (if t221 = true then ((cadencylaw01_tells.f k (shr .u64 a1 (IntKind.u64.wrap (Go.bits .and .i64 a2 63))) a0).bind fun t222 => (some t222)) else (none))) else (none)) else (none))) else (none)) else (none))) else (none))) = some r := h
  clear h
  replace H := Option.bind_eq_some_iff.mp H
  obtain ⟨t218, A40, H⟩ := H
  replace H : (if t218 = true then ((cadencylaw01_tells.f k a0 a1).bind fun t219 => (if t219 = true then (if 0 ≤ (IntKind.u64.wrap (Go.bits .and .i64 a2 63)) then ((cadencylaw01_tells.f k (shr .u64 a0 (IntKind.u64.wrap (Go.bits .and .i64 a2 63))) a1).bind fun t220 => (if t220 = true then (if 0 ≤ (IntKind.u64.wrap (64 - (IntKind.u64.wrap (Go.bits .and .i64 a2 63)))) then ((cadencylaw01_tells.f k (shr .u64 a0 (IntKind.u64.wrap (Go.bits .and .i64 a2 63))) (shr .u64 a1 (IntKind.u64.wrap (64 - (IntKind.u64.wrap (Go.bits .and .i64 a2 63)))))).bind fun t221 => (if t221 = true then ((cadencylaw01_tells.f k (shr .u64 a1 (IntKind.u64.wrap (Go.bits .and .i64 a2 63))) a0).bind fun t222 => (some t222)) else (none))) else (none)) else (none))) else (none)) else (none))) else (none)) = some r := H
  have A4 := Aside0.mk A40
  clear A40
  by_cases c5 : t218 = true
  · subst c5
    have H1 : ((cadencylaw01_tells.f k a0 a1).bind fun t219 => (if t219 = true then (if 0 ≤ (IntKind.u64.wrap (Go.bits .and .i64 a2 63)) then ((cadencylaw01_tells.f k (shr .u64 a0 (IntKind.u64.wrap (Go.bits .and .i64 a2 63))) a1).bind fun t220 => (if t220 = true then (if 0 ≤ (IntKind.u64.wrap (64 - (IntKind.u64.wrap (Go.bits .and .i64 a2 63)))) then ((cadencylaw01_tells.f k (shr .u64 a0 (IntKind.u64.wrap (Go.bits .and .i64 a2 63))) (shr .u64 a1 (IntKind.u64.wrap (64 - (IntKind.u64.wrap (Go.bits .and .i64 a2 63)))))).bind fun t221 => (if t221 = true then ((cadencylaw01_tells.f k (shr .u64 a1 (IntKind.u64.wrap (Go.bits .and .i64 a2 63))) a0).bind fun t222 => (some t222)) else (none))) else (none)) else (none))) else (none)) else (none))) = some r := by rw [if_pos rfl] at H; exact H
    clear H
    have H := H1
    clear H1
    replace H := Option.bind_eq_some_iff.mp H
    obtain ⟨t219, A60, H⟩ := H
    replace H : (if t219 = true then (if 0 ≤ (IntKind.u64.wrap (Go.bits .and .i64 a2 63)) then ((cadencylaw01_tells.f k (shr .u64 a0 (IntKind.u64.wrap (Go.bits .and .i64 a2 63))) a1).bind fun t220 => (if t220 = true then (if 0 ≤ (IntKind.u64.wrap (64 - (IntKind.u64.wrap (Go.bits .and .i64 a2 63)))) then ((cadencylaw01_tells.f k (shr .u64 a0 (IntKind.u64.wrap (Go.bits .and .i64 a2 63))) (shr .u64 a1 (IntKind.u64.wrap (64 - (IntKind.u64.wrap (Go.bits .and .i64 a2 63)))))).bind fun t221 => (if t221 = true then ((cadencylaw01_tells.f k (shr .u64 a1 (IntKind.u64.wrap (Go.bits .and .i64 a2 63))) a0).bind fun t222 => (some t222)) else (none))) else (none)) else (none))) else (none)) else (none)) = some r := H
    have A6 := Aside0.mk A60
    clear A60
    by_cases c7 : t219 = true
    · subst c7
      have H1 : (if 0 ≤ (IntKind.u64.wrap (Go.bits .and .i64 a2 63)) then ((cadencylaw01_tells.f k (shr .u64 a0 (IntKind.u64.wrap (Go.bits .and .i64 a2 63))) a1).bind fun t220 => (if t220 = true then (if 0 ≤ (IntKind.u64.wrap (64 - (IntKind.u64.wrap (Go.bits .and .i64 a2 63)))) then ((cadencylaw01_tells.f k (shr .u64 a0 (IntKind.u64.wrap (Go.bits .and .i64 a2 63))) (shr .u64 a1 (IntKind.u64.wrap (64 - (IntKind.u64.wrap (Go.bits .and .i64 a2 63)))))).bind fun t221 => (if t221 = true then ((cadencylaw01_tells.f k (shr .u64 a1 (IntKind.u64.wrap (Go.bits .and .i64 a2 63))) a0).bind fun t222 => (some t222)) else (none))) else (none)) else (none))) else (none)) = some r := by rw [if_pos rfl] at H; exact H
      clear H
      have H := H1
      clear H1
      obtain ⟨ji8, hji8⟩ : ∃ j_ : Int, (IntKind.u64.wrap (Go.bits .and .i64 a2 63)) = j_ := ⟨_, rfl⟩
      replace H : (if 0 ≤ (ji8) then ((cadencylaw01_tells.f k (shr .u64 a0 (ji8)) a1).bind fun t220 => (if t220 = true then (if 0 ≤ (IntKind.u64.wrap (64 - (ji8))) then ((cadencylaw01_tells.f k (shr .u64 a0 (ji8)) (shr .u64 a1 (IntKind.u64.wrap (64 - (ji8))))).bind fun t221 => (if t221 = true then ((cadencylaw01_tells.f k (shr .u64 a1 (ji8)) a0).bind fun t222 => (some t222)) else (none))) else (none)) else (none))) else (none)) = some r := by first | (rw [hji8] at H; exact H) | (simp only [hji8] at H ⊢; exact H)
      (try rw [hji8] at A4)
      (try rw [hji8] at A6)
      by_cases c9 : 0 ≤ (ji8)
      · rw [if_pos c9] at H
        have c9b0 := eq_true c9
        have c9b1 : decide (0 ≤ (ji8)) = true := decide_eq_true c9
        clear c9
        obtain ⟨ji10, hji10⟩ : ∃ j_ : Int, (shr .u64 a0 (ji8)) = j_ := ⟨_, rfl⟩
        replace H : ((cadencylaw01_tells.f k (ji10) a1).bind fun t220 => (if t220 = true then (if 0 ≤ (IntKind.u64.wrap (64 - (ji8))) then ((cadencylaw01_tells.f k (ji10) (shr .u64 a1 (IntKind.u64.wrap (64 - (ji8))))).bind fun t221 => (if t221 = true then ((cadencylaw01_tells.f k (shr .u64 a1 (ji8)) a0).bind fun t222 => (some t222)) else (none))) else (none)) else (none))) = some r := by first | (rw [hji10] at H; exact H) | (simp only [hji10] at H ⊢; exact H)
        (try rw [hji10] at A4)
        (try rw [hji10] at A6)
        have hji10_ : (a0 / 2 ^ min (ji8).toNat 64) = ji10 := hji10
        have hji10z : (ji8) ≤ 64 → (a0 / 2 ^ (ji8).toNat) = ji10 := shr_small hji10
        replace H := Option.bind_eq_some_iff.mp H
        obtain ⟨t220, A110, H⟩ := H
        replace H : (if t220 = true then (if 0 ≤ (IntKind.u64.wrap (64 - (ji8))) then ((cadencylaw01_tells.f k (ji10) (shr .u64 a1 (IntKind.u64.wrap (64 - (ji8))))).bind fun t221 => (if t221 = true then ((cadencylaw01_tells.f k (shr .u64 a1 (ji8)) a0).bind fun t222 => (some t222)) else (none))) else (none)) else (none)) = some r := H
        have A11 := Aside0.mk A110
        clear A110
        by_cases c12 : t220 = true
        · subst c12
          have H1 : (if 0 ≤ (IntKind.u64.wrap (64 - (ji8))) then ((cadencylaw01_tells.f k (ji10) (shr .u64 a1 (IntKind.u64.wrap (64 - (ji8))))).bind fun t221 => (if t221 = true then ((cadencylaw01_tells.f k (shr .u64 a1 (ji8)) a0).bind fun t222 => (some t222)) else (none))) else (none)) = some r := by rw [if_pos rfl] at H; exact H
          clear H
          have H := H1
          clear H1
          have c13b0 := eq_true (of_decide_eq_true (by first | (with_reducible assumption) | assumption) : 0 ≤ (ji8))
          obtain ⟨ji14, hji14⟩ : ∃ j_ : Int, (IntKind.u64.wrap (64 - (ji8))) = j_ := ⟨_, rfl⟩
          replace H : (if 0 ≤ (ji14) then ((cadencylaw01_tells.f k (ji10) (shr .u64 a1 (ji14))).bind fun t221 => (if t221 = true then ((cadencylaw01_tells.f k (shr .u64 a1 (ji8)) a0).bind fun t222 => (some t222)) else (none))) else (none)) = some r := by first | (rw [hji14] at H; exact H) | (simp only [hji14] at H ⊢; exact H)
          (try rw [hji14] at A4)
          (try rw [hji14] at A6)
          (try rw [hji14] at A11)
          by_cases c15 : 0 ≤ (ji14)
          · rw [if_pos c15] at H
            have c15b0 := eq_true c15
            have c15b1 : decide (0 ≤ (ji14)) = true := decide_eq_true c15
            clear c15
            obtain ⟨ji16, hji16⟩ : ∃ j_ : Int, (shr .u64 a1 (ji14)) = j_ := ⟨_, rfl⟩
            replace H : ((cadencylaw01_tells.f k (ji10) (ji16)).bind fun t221 => (if t221 = true then ((cadencylaw01_tells.f k (shr .u64 a1 (ji8)) a0).bind fun t222 => (some t222)) else (none))) = some r := by first | (rw [hji16] at H; exact H) | (simp only [hji16] at H ⊢; exact H)
            (try rw [hji16] at A4)
            (try rw [hji16] at A6)
            (try rw [hji16] at A11)
            have hji16_ : (a1 / 2 ^ min (ji14).toNat 64) = ji16 := hji16
            have hji16z : (ji14) ≤ 64 → (a1 / 2 ^ (ji14).toNat) = ji16 := shr_small hji16
            replace H := Option.bind_eq_some_iff.mp H
            obtain ⟨t221, A170, H⟩ := H
            replace H : (if t221 = true then ((cadencylaw01_tells.f k (shr .u64 a1 (ji8)) a0).bind fun t222 => (some t222)) else (none)) = some r := H
            have A17 := Aside0.mk A170
            clear A170
            by_cases c18 : t221 = true
            · subst c18
              have H1 : ((cadencylaw01_tells.f k (shr .u64 a1 (ji8)) a0).bind fun t222 => (some t222)) = some r := by rw [if_pos rfl] at H; exact H
              clear H
              have H := H1
              clear H1
              have c19b0 := eq_true (of_decide_eq_true (by first | (with_reducible assumption) | assumption) : 0 ≤ (ji8))
              obtain ⟨ji20, hji20⟩ : ∃ j_ : Int, (shr .u64 a1 (ji8)) = j_ := ⟨_, rfl⟩
              replace H : ((cadencylaw01_tells.f k (ji20) a0).bind fun t222 => (some t222)) = some r := by first | (rw [hji20] at H; exact H) | (simp only [hji20] at H ⊢; exact H)
              (try rw [hji20] at A4)
              (try rw [hji20] at A6)
              (try rw [hji20] at A11)
              (try rw [hji20] at A17)
              have hji20_ : (a1 / 2 ^ min (ji8).toNat 64) = ji20 := hji20
              have hji20z : (ji8) ≤ 64 → (a1 / 2 ^ (ji8).toNat) = ji20 := shr_small hji20
              replace H := Option.bind_eq_some_iff.mp H
              obtain ⟨t222, A210, H⟩ := H
              replace H : (some t222) = some r := H
              have A21 := Aside0.mk A210
              clear A210
              obtain rfl := Option.some.inj H
              go_enter Try.func9, Try.ntmps9
              go_wp2_with (first | ((with_reducible refine gate_callee (f := 11) rfl ?_); refine goesL_ (some 9) rfl rfl Try.func11 (by kernel_rfl) rfl #[] rfl (by (try simp only [List.map_toArray, List.map_cons, List.map_nil]); first | done | rfl | (simp only [List.length_drop, List.length_take]; rfl)) ?_; (with_reducible refine (cadencylaw01_awake.calls k  true _ A4.out).mono ?_); rintro e w22 ⟨rfl, hb⟩; refine ⟨_, rfl, ?_⟩; have n0_ := Aside0.mk (below_step (by repeat (first | (with_reducible first | exact HB.out | apply below_alloc | apply pw_below_drewN | apply below_drew1) | exact HB.out)) hb); clear HB; have HB := n0_; clear n0_; (try clear hb); (try clear hb2); (try clear hk); (try clear hi)) | (go_at_call 21; (with_reducible refine (cadencylaw01_tells.calls k a0 a1 true _ A6.out).mono ?_); rintro e w23 ⟨rfl, hb⟩; have n0_ := Aside0.mk (below_step (by repeat (first | (with_reducible first | exact HB.out | apply below_alloc | apply pw_below_drewN | apply below_drew1) | exact HB.out)) hb); clear HB; have HB := n0_; clear n0_; (try clear hb); (try clear hb2); (try clear hk); (try clear hi)) | (go_at_call 21; (with_reducible refine (cadencylaw01_tells.calls k ji10 a1 true _ A11.out).mono ?_); rintro e w24 ⟨rfl, hb⟩; have n0_ := Aside0.mk (below_step (by repeat (first | (with_reducible first | exact HB.out | apply below_alloc | apply pw_below_drewN | apply below_drew1) | exact HB.out)) hb); clear HB; have HB := n0_; clear n0_; (try clear hb); (try clear hb2); (try clear hk); (try clear hi)) | (go_at_call 21; (with_reducible refine (cadencylaw01_tells.calls k ji10 ji16 true _ A17.out).mono ?_); rintro e w25 ⟨rfl, hb⟩; have n0_ := Aside0.mk (below_step (by repeat (first | (with_reducible first | exact HB.out | apply below_alloc | apply pw_below_drewN | apply below_drew1) | exact HB.out)) hb); clear HB; have HB := n0_; clear n0_; (try clear hb); (try clear hb2); (try clear hk); (try clear hi)) | (go_at_call 21; (with_reducible refine (cadencylaw01_tells.calls k ji20 a0 t222 _ A21.out).mono ?_); rintro e w26 ⟨rfl, hb⟩; have n0_ := Aside0.mk (below_step (by repeat (first | (with_reducible first | exact HB.out | apply below_alloc | apply pw_below_drewN | apply below_drew1) | exact HB.out)) hb); clear HB; have HB := n0_; clear n0_; (try clear hb); (try clear hb2); (try clear hk); (try clear hi)))
              go_ret
              exact ⟨by first | rfl | (simp [errW_none, errW_some] <;> rfl) | (simp only [← hji8, ← hji10, ← hji14, ← hji16, ← hji20]; first | rfl | (simp [errW_none, errW_some] <;> rfl)) | (simp [*, errW_none, errW_some] <;> rfl), by repeat (first | (with_reducible first | exact HB.out | apply below_alloc | apply pw_below_drewN | apply below_drew1) | exact HB.out)⟩
            · replace c18 := Bool.eq_false_iff.mpr c18
              subst c18
              have H1 : (none) = some r := by rw [if_neg (show ¬ (false = true) by decide)] at H; exact H
              clear H
              have H := H1
              clear H1
              exact absurd H (by simp)
          · rw [if_neg c15] at H
            exact absurd H (by simp)
        · replace c12 := Bool.eq_false_iff.mpr c12
          subst c12
          have H1 : (none) = some r := by rw [if_neg (show ¬ (false = true) by decide)] at H; exact H
          clear H
          have H := H1
          clear H1
          exact absurd H (by simp)
      · rw [if_neg c9] at H
        exact absurd H (by simp)
    · replace c7 := Bool.eq_false_iff.mpr c7
      subst c7
      have H1 : (none) = some r := by rw [if_neg (show ¬ (false = true) by decide)] at H; exact H
      clear H
      have H := H1
      clear H1
      exact absurd H (by simp)
  · replace c5 := Bool.eq_false_iff.mpr c5
    subst c5
    have H1 : (none) = some r := by rw [if_neg (show ¬ (false = true) by decide)] at H; exact H
    clear H
    have H := H1
    clear H1
    exact absurd H (by simp)

/-- THE ONE PURE STATEMENT of cadencylaw01_NumTells: yours. -/
def cadencylaw01_NumTells.Pure : Prop := ∀ (a0 : Int) (a1 : Int) (a2 : Int), (Lit.int .u64 a0).wf = true → (Lit.int .u64 a1).wf = true → (Lit.int .i64 a2).wf = true → ∃ k, cadencylaw01_NumTells.f k a0 a1 a2 = some true
theorem cadencylaw01_NumTells.walk (P : cadencylaw01_NumTells.Pure) (a0 : Int) (a1 : Int) (a2 : Int) (w : World) (w0 : (Lit.int .u64 a0).wf = true) (w1 : (Lit.int .u64 a1).wf = true) (w2 : (Lit.int .i64 a2).wf = true) :
    Calls Try.prog 9 #[.int .u64 a0, .int .u64 a1, .int .i64 a2] w fun e w' => e = .returned (.bool true) ∧ Below w.heap.size w w' := by
  obtain ⟨k, h⟩ := P a0 a1 a2 w0 w1 w2
  refine (cadencylaw01_NumTells.calls k a0 a1 a2 true w h).mono ?_
  rintro e w' ⟨rfl, hd⟩
  exact ⟨rfl, hd⟩

end Go.Proofs.Ythhojifpogghlaa.PAll
