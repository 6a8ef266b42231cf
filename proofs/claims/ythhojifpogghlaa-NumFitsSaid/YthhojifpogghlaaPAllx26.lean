-- Laid by wip/printx.py, over the print of the kit.
import Derived.Test.YthhojifpogghlaaPAllx0
import Derived.Test.YthhojifpogghlaaPAllx9
import Derived.Test.YthhojifpogghlaaPAllx25
namespace Go.Proofs.Ythhojifpogghlaa.PAll
open Go.RowKit Go.Proofs.YthhojifpogghlaaW.PrintWords Go.Proofs.YthhojifpogghlaaW.PrintLast Go.Proofs.YthhojifpogghlaaW.PrintMore
attribute [local go_sem] max2_int min2_int max_two min_two max_three min_three max_four min_four   -- for this text's walks alone
set_option linter.unusedVariables false
set_option linter.unusedSimpArgs false

/-! ### cadencylaw01_NumFits: function 8 -/
def cadencylaw01_NumFits.f (k : Nat) (a0 : Int) (a1 : Int) : Option (Bool) := (cadencylaw01_awake.f k).bind fun t189 => (if t189 = true then ((cadencylaw01_fits.f a0).bind fun t190 => (if t190 = true then (if 0 ≤ (IntKind.u64.wrap (Go.bits .and .i64 a1 63)) then ((cadencylaw01_fits.f (shr .i64 a0 (IntKind.u64.wrap (Go.bits .and .i64 a1 63)))).bind fun t191 => (some t191)) else (none)) else (none))) else (none))
theorem cadencylaw01_NumFits.mono : ∀ a0 a1 k, LeO (cadencylaw01_NumFits.f k a0 a1) (cadencylaw01_NumFits.f (k + 1) a0 a1) := by
  intro a0 a1 k
  unfold cadencylaw01_NumFits.f
  repeat' first
      | (with_reducible exact cadencylaw01_awake.mono _)
      | (with_reducible exact LeO.refl _)
      | (with_reducible exact LeO.none _)
      | (with_reducible refine LeO.ite ?_ ?_)
      | (with_reducible refine LeO.bind ?_ (fun _ => ?_))
      | exact cadencylaw01_awake.mono _
      | exact LeO.none _
      | refine LeO.ite ?_ ?_
      | refine LeO.bind ?_ (fun _ => ?_)
set_option maxHeartbeats 8000000 in
set_option maxRecDepth 100000 in
theorem cadencylaw01_NumFits.calls (k : Nat) (a0 : Int) (a1 : Int) (r : Bool) (w : World) (h : cadencylaw01_NumFits.f k a0 a1 = some r) :
    Calls Try.prog 8 #[.int .i64 a0, .int .i64 a1] w fun e w' => e = .returned (.bool r) ∧ Below w.heap.size w w' := by
  have HB := Aside0.mk (Below.refl w.heap.size w)
  have H : ((cadencylaw01_awake.f k).bind fun t189 => (if t189 = true then ((cadencylaw01_fits.f a0).bind fun t190 => (if t190 = true then (if 0 ≤ (IntKind.u64.wrap (Go.bits .and .i64 a1 63)) then ((cadencylaw01_fits.f (shr .i64 a0 (IntKind.u64.wrap (Go.bits .and .i64 a1 63)))).bind fun t191 => (some t191)) else (none)) else (none))) else (none))) = some r := h
  clear h
  replace H := Option.bind_eq_some_iff.mp H
  obtain ⟨t189, A30, H⟩ := H
  replace H : (if t189 = true then ((cadencylaw01_fits.f a0).bind fun t190 => (if t190 = true then (if 0 ≤ (IntKind.u64.wrap (Go.bits .and .i64 a1 63)) then ((cadencylaw01_fits.f (shr .i64 a0 (IntKind.u64.wrap (Go.bits .and .i64 a1 63)))).bind fun t191 => (some t191)) else (none)) else (none))) else (none)) = some r := H
  have A3 := Aside0.mk A30
  clear A30
  by_cases c4 : t189 = true
  · subst c4
    have H1 : ((cadencylaw01_fits.f a0).bind fun t190 => (if t190 = true then (if 0 ≤ (IntKind.u64.wrap (Go.bits .and .i64 a1 63)) then ((cadencylaw01_fits.f (shr .i64 a0 (IntKind.u64.wrap (Go.bits .and .i64 a1 63)))).bind fun t191 => (some t191)) else (none)) else (none))) = some r := by rw [if_pos rfl] at H; exact H
    clear H
    have H := H1
    clear H1
    replace H := Option.bind_eq_some_iff.mp H
    obtain ⟨t190, A50, H⟩ := H
    replace H : (if t190 = true then (if 0 ≤ (IntKind.u64.wrap (Go.bits .and .i64 a1 63)) then ((cadencylaw01_fits.f (shr .i64 a0 (IntKind.u64.wrap (Go.bits .and .i64 a1 63)))).bind fun t191 => (some t191)) else (none)) else (none)) = some r := H
    have A5 := Aside0.mk A50
    clear A50
    by_cases c6 : t190 = true
    · subst c6
      have H1 : (if 0 ≤ (IntKind.u64.wrap (Go.bits .and .i64 a1 63)) then ((cadencylaw01_fits.f (shr .i64 a0 (IntKind.u64.wrap (Go.bits .and .i64 a1 63)))).bind fun t191 => (some t191)) else (none)) = some r := by rw [if_pos rfl] at H; exact H
      clear H
      have H := H1
      clear H1
      obtain ⟨ji7, hji7⟩ : ∃ j_ : Int, (IntKind.u64.wrap (Go.bits .and .i64 a1 63)) = j_ := ⟨_, rfl⟩
      replace H : (if 0 ≤ (ji7) then ((cadencylaw01_fits.f (shr .i64 a0 (ji7))).bind fun t191 => (some t191)) else (none)) = some r := by first | (rw [hji7] at H; exact H) | (simp only [hji7] at H ⊢; exact H)
      (try rw [hji7] at A3)
      (try rw [hji7] at A5)
      by_cases c8 : 0 ≤ (ji7)
      · rw [if_pos c8] at H
        have c8b0 := eq_true c8
        have c8b1 : decide (0 ≤ (ji7)) = true := decide_eq_true c8
        clear c8
        obtain ⟨ji9, hji9⟩ : ∃ j_ : Int, (shr .i64 a0 (ji7)) = j_ := ⟨_, rfl⟩
        replace H : ((cadencylaw01_fits.f (ji9)).bind fun t191 => (some t191)) = some r := by first | (rw [hji9] at H; exact H) | (simp only [hji9] at H ⊢; exact H)
        (try rw [hji9] at A3)
        (try rw [hji9] at A5)
        have hji9_ : (a0 / 2 ^ min (ji7).toNat 64) = ji9 := hji9
        have hji9z : (ji7) ≤ 64 → (a0 / 2 ^ (ji7).toNat) = ji9 := shr_small hji9
        replace H := Option.bind_eq_some_iff.mp H
        obtain ⟨t191, A100, H⟩ := H
        replace H : (some t191) = some r := H
        have A10 := Aside0.mk A100
        clear A100
        obtain rfl := Option.some.inj H
        go_enter Try.func8, Try.ntmps8
        go_wp2_with (first | ((with_reducible refine gate_callee (f := 11) rfl ?_); refine goesL_ (some 6) rfl rfl Try.func11 (by kernel_rfl) rfl #[] rfl (by (try simp only [List.map_toArray, List.map_cons, List.map_nil]); first | done | rfl | (simp only [List.length_drop, List.length_take]; rfl)) ?_; (with_reducible refine (cadencylaw01_awake.calls k  true _ A3.out).mono ?_); rintro e w11 ⟨rfl, hb⟩; refine ⟨_, rfl, ?_⟩; have n0_ := Aside0.mk (below_step (by repeat (first | (with_reducible first | exact HB.out | apply below_alloc | apply pw_below_drewN | apply below_drew1) | exact HB.out)) hb); clear HB; have HB := n0_; clear n0_; (try clear hb); (try clear hb2); (try clear hk); (try clear hi)) | (go_at_call 20; (with_reducible refine (cadencylaw01_fits.calls a0 true _ A5.out).mono ?_); rintro e w' ⟨rfl, ⟨nd, rfl⟩⟩) | (go_at_call 20; (with_reducible refine (cadencylaw01_fits.calls ji9 t191 _ A10.out).mono ?_); rintro e w' ⟨rfl, ⟨nd, rfl⟩⟩))
        go_ret
        exact ⟨by first | rfl | (simp [errW_none, errW_some] <;> rfl) | (simp only [← hji7, ← hji9]; first | rfl | (simp [errW_none, errW_some] <;> rfl)) | (simp [*, errW_none, errW_some] <;> rfl), by repeat (first | (with_reducible first | exact HB.out | apply below_alloc | apply pw_below_drewN | apply below_drew1) | exact HB.out)⟩
      · rw [if_neg c8] at H
        exact absurd H (by simp)
    · replace c6 := Bool.eq_false_iff.mpr c6
      subst c6
      have H1 : (none) = some r := by rw [if_neg (show ¬ (false = true) by decide)] at H; exact H
      clear H
      have H := H1
      clear H1
      exact absurd H (by simp)
  · replace c4 := Bool.eq_false_iff.mpr c4
    subst c4
    have H1 : (none) = some r := by rw [if_neg (show ¬ (false = true) by decide)] at H; exact H
    clear H
    have H := H1
    clear H1
    exact absurd H (by simp)

/-- THE ONE PURE STATEMENT of cadencylaw01_NumFits: yours. -/
def cadencylaw01_NumFits.Pure : Prop := ∀ (a0 : Int) (a1 : Int), (Lit.int .i64 a0).wf = true → (Lit.int .i64 a1).wf = true → ∃ k, cadencylaw01_NumFits.f k a0 a1 = some true
theorem cadencylaw01_NumFits.walk (P : cadencylaw01_NumFits.Pure) (a0 : Int) (a1 : Int) (w : World) (w0 : (Lit.int .i64 a0).wf = true) (w1 : (Lit.int .i64 a1).wf = true) :
    Calls Try.prog 8 #[.int .i64 a0, .int .i64 a1] w fun e w' => e = .returned (.bool true) ∧ Below w.heap.size w w' := by
  obtain ⟨k, h⟩ := P a0 a1 w0 w1
  refine (cadencylaw01_NumFits.calls k a0 a1 true w h).mono ?_
  rintro e w' ⟨rfl, hd⟩
  exact ⟨rfl, hd⟩

end Go.Proofs.Ythhojifpogghlaa.PAll
