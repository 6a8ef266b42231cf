-- Laid by wip/printx.py, over the print of the kit.
import Derived.Test.YtcheokfoilcdoaaPAllx0
import Derived.Test.YtcheokfoilcdoaaPAllx2
import Derived.Test.YtcheokfoilcdoaaPAllx4
import Derived.Test.YtcheokfoilcdoaaPAllx6
namespace Go.Proofs.Ytcheokfoilcdoaa.PAll
open Go.RowKit Go.Proofs.YtcheokfoilcdoaaW.PrintWords Go.Proofs.YtcheokfoilcdoaaW.PrintLast Go.Proofs.YtcheokfoilcdoaaW.PrintMore
attribute [local go_sem] max2_int min2_int max_two min_two max_three min_three max_four min_four   -- for this text's walks alone
set_option linter.unusedVariables false
set_option linter.unusedSimpArgs false

/-! ### cadencylaw04_TaskFinds: function 4 -/
def cadencylaw04_TaskFinds.f (k : Nat) (l0 : List (S26)) (l1 : List (S51)) (a2 : ByteArray) : Option (Bool) := (cadencylaw04_awake.f).bind fun t153 => (if (l0.length : Int) > 6 then (if 6 ≤ (l0.length : Int) then ((some (l0.take 6 : List (S26))).bind fun y154 => ((cadencyref04_Set.f k l1 8 (a2.size : Int)).bind fun t158 => (if t153 = true then ((cadencylaw04_finds.f k y154 a2).bind fun t161 => (if t161 = true then ((cadencylaw04_finds.f k t158 a2).bind fun t162 => (if t162 = true then ((cadencylaw04_finds.f k t158 (⟨#[116, 98]⟩ : ByteArray)).bind fun t163 => (if t163 = true then ((cadencylaw04_finds.f k y154 (⟨#[]⟩ : ByteArray)).bind fun t164 => (some t164)) else (none))) else (none))) else (none))) else (none)))) else (none)) else ((cadencyref04_Set.f k l1 8 (a2.size : Int)).bind fun t165 => (if t153 = true then ((cadencylaw04_finds.f k l0 a2).bind fun t168 => (if t168 = true then ((cadencylaw04_finds.f k t165 a2).bind fun t169 => (if t169 = true then ((cadencylaw04_finds.f k t165 (⟨#[116, 98]⟩ : ByteArray)).bind fun t170 => (if t170 = true then ((cadencylaw04_finds.f k l0 (⟨#[]⟩ : ByteArray)).bind fun t171 => (some t171)) else (none))) else (none))) else (none))) else (none))))
theorem cadencylaw04_TaskFinds.mono : ∀ a0 a1 a2 k, LeO (cadencylaw04_TaskFinds.f k a0 a1 a2) (cadencylaw04_TaskFinds.f (k + 1) a0 a1 a2) := by
  intro a0 a1 a2 k
  unfold cadencylaw04_TaskFinds.f
  repeat' first
      | (with_reducible exact cadencylaw04_finds.mono _ _ _)
      | (with_reducible exact cadencyref04_Set.mono _ _ _ _)
      | (with_reducible exact LeO.refl _)
      | (with_reducible exact LeO.none _)
      | (with_reducible refine LeO.ite ?_ ?_)
      | (with_reducible refine LeO.bind ?_ (fun _ => ?_))
      | exact cadencylaw04_finds.mono _ _ _
      | exact cadencyref04_Set.mono _ _ _ _
      | exact LeO.none _
      | refine LeO.ite ?_ ?_
      | refine LeO.bind ?_ (fun _ => ?_)
set_option maxHeartbeats 8000000 in
set_option maxRecDepth 100000 in
theorem cadencylaw04_TaskFinds.calls (k : Nat) (A0 : Option Addr) (c0 : Nat) (l0 : List (S26)) (A1 : Option Addr) (c1 : Nat) (l1 : List (S51)) (a2 : ByteArray) (r : Bool) (w : World) (hr0 : Kd.C k26 w A0 l0.length l0) (hc0 : l0.length ≤ c0) (hr1 : Kd.C k51 w A1 l1.length l1) (hc1 : l1.length ≤ c1) (h : cadencylaw04_TaskFinds.f k l0 l1 a2 = some r) :
    Calls Try.prog 4 #[.slice A0 l0.length c0, .slice A1 l1.length c1, .string a2] w fun e w' => e = .returned (.bool r) ∧ Below w.heap.size w w' := by
  have HR0 := Aside0.mk hr0
  have HC0 := Aside0.mk hc0
  clear hr0 hc0
  have HR1 := Aside0.mk hr1
  have HC1 := Aside0.mk hc1
  clear hr1 hc1
  have HB := Aside0.mk (Below.refl w.heap.size w)
  have H : ((cadencylaw04_awake.f).bind fun t153 => (if (l0.length : Int) > 6 then (if 6 ≤ (l0.length : Int) then ((some (l0.take 6 : List (S26))).bind fun y154 => ((cadencyref04_Set.f k l1 8 (a2.size : Int)).bind fun t158 => (if t153 = true then ((cadencylaw04_finds.f k y154 a2).bind fun t161 => (if t161 = true then ((cadencylaw04_finds.f k t158 a2).bind fun t162 => (if t162 = true then ((cadencylaw04_finds.f k t158 (⟨#[116, 98]⟩ : ByteArray)).bind fun t163 => (if t163 = true then ((cadencylaw04_finds.f k y154 (⟨#[]⟩ : ByteArray)).bind fun t164 => (some t164)) else (none))) else (none))) else (none))) else (none)))) else (none)) else ((cadencyref04_Set.f k l1 8 (a2.size : Int)).bind fun t165 => (if t153 = true then ((cadencylaw04_finds.f k l0 a2).bind fun t168 => (if t168 = true then ((cadencylaw04_finds.f k t165 a2).bind fun t169 => (if t169 = true then ((cadencylaw04_finds.f k t165 (⟨#[116, 98]⟩ : ByteArray)).bind fun t170 => (if t170 = true then ((cadencylaw04_finds.f k l0 (⟨#[]⟩ : ByteArray)).bind fun t171 => (some t171)) else (none))) else (none))) else (none))) else (none))))) = some r := h
  clear h
  replace H := Option.bind_eq_some_iff.mp H
  obtain ⟨t153, A40, H⟩ := H
  replace H : (if (l0.length : Int) > 6 then (if 6 ≤ (l0.length : Int) then ((some (l0.take 6 : List (S26))).bind fun y154 => ((cadencyref04_Set.f k l1 8 (a2.size : Int)).bind fun t158 => (if t153 = true then ((cadencylaw04_finds.f k y154 a2).bind fun t161 => (if t161 = true then ((cadencylaw04_finds.f k t158 a2).bind fun t162 => (if t162 = true then ((cadencylaw04_finds.f k t158 (⟨#[116, 98]⟩ : ByteArray)).bind fun t163 => (if t163 = true then ((cadencylaw04_finds.f k y154 (⟨#[]⟩ : ByteArray)).bind fun t164 => (some t164)) else (none))) else (none))) else (none))) else (none)))) else (none)) else ((cadencyref04_Set.f k l1 8 (a2.size : Int)).bind fun t165 => (if t153 = true then ((cadencylaw04_finds.f k l0 a2).bind fun t168 => (if t168 = true then ((cadencylaw04_finds.f k t165 a2).bind fun t169 => (if t169 = true then ((cadencylaw04_finds.f k t165 (⟨#[116, 98]⟩ : ByteArray)).bind fun t170 => (if t170 = true then ((cadencylaw04_finds.f k l0 (⟨#[]⟩ : ByteArray)).bind fun t171 => (some t171)) else (none))) else (none))) else (none))) else (none)))) = some r := H
  have A4 := Aside0.mk A40
  clear A40
  by_cases c5 : (l0.length : Int) > 6
  · rw [if_pos c5] at H
    have c5b0 : decide (6 < (l0.length : Int)) = true := decide_eq_true c5
    have c5b1 : decide (6 < l0.length) = true := decide_eq_true (by omega)
    clear c5
    by_cases c6 : 6 ≤ (l0.length : Int)
    · rw [if_pos c6] at H
      have c6b0 := eq_true c6
      have c6b1 : decide (6 ≤ (l0.length : Int)) = true := decide_eq_true c6
      clear c6
      obtain ⟨y154, hy154⟩ : ∃ y_ : List (S26), y_ = (l0.take 6) := ⟨_, rfl⟩
      replace H : ((cadencyref04_Set.f k l1 8 (a2.size : Int)).bind fun t158 => (if t153 = true then ((cadencylaw04_finds.f k y154 a2).bind fun t161 => (if t161 = true then ((cadencylaw04_finds.f k t158 a2).bind fun t162 => (if t162 = true then ((cadencylaw04_finds.f k t158 (⟨#[116, 98]⟩ : ByteArray)).bind fun t163 => (if t163 = true then ((cadencylaw04_finds.f k y154 (⟨#[]⟩ : ByteArray)).bind fun t164 => (some t164)) else (none))) else (none))) else (none))) else (none))) = some r := by first | (rw [hy154]; with_reducible exact H) | (have H2_ := (Option.bind_some _ _).symm.trans H; rw [hy154]; with_reducible exact H2_) | (have H2_ := (Option.bind_some _ _).symm.trans H; with_reducible exact H2_) | with_reducible exact H | (rw [hy154]; exact H) | exact H
      have Ny154 := Aside0.mk hy154
      clear hy154
      replace H := Option.bind_eq_some_iff.mp H
      obtain ⟨t158, A70, H⟩ := H
      replace H : (if t153 = true then ((cadencylaw04_finds.f k y154 a2).bind fun t161 => (if t161 = true then ((cadencylaw04_finds.f k t158 a2).bind fun t162 => (if t162 = true then ((cadencylaw04_finds.f k t158 (⟨#[116, 98]⟩ : ByteArray)).bind fun t163 => (if t163 = true then ((cadencylaw04_finds.f k y154 (⟨#[]⟩ : ByteArray)).bind fun t164 => (some t164)) else (none))) else (none))) else (none))) else (none)) = some r := H
      have A7 := Aside0.mk A70
      clear A70
      by_cases c8 : t153 = true
      · subst c8
        have H1 : ((cadencylaw04_finds.f k y154 a2).bind fun t161 => (if t161 = true then ((cadencylaw04_finds.f k t158 a2).bind fun t162 => (if t162 = true then ((cadencylaw04_finds.f k t158 (⟨#[116, 98]⟩ : ByteArray)).bind fun t163 => (if t163 = true then ((cadencylaw04_finds.f k y154 (⟨#[]⟩ : ByteArray)).bind fun t164 => (some t164)) else (none))) else (none))) else (none))) = some r := by rw [if_pos rfl] at H; exact H
        clear H
        have H := H1
        clear H1
        replace H := Option.bind_eq_some_iff.mp H
        obtain ⟨t161, A90, H⟩ := H
        replace H : (if t161 = true then ((cadencylaw04_finds.f k t158 a2).bind fun t162 => (if t162 = true then ((cadencylaw04_finds.f k t158 (⟨#[116, 98]⟩ : ByteArray)).bind fun t163 => (if t163 = true then ((cadencylaw04_finds.f k y154 (⟨#[]⟩ : ByteArray)).bind fun t164 => (some t164)) else (none))) else (none))) else (none)) = some r := H
        have A9 := Aside0.mk A90
        clear A90
        by_cases c10 : t161 = true
        · subst c10
          have H1 : ((cadencylaw04_finds.f k t158 a2).bind fun t162 => (if t162 = true then ((cadencylaw04_finds.f k t158 (⟨#[116, 98]⟩ : ByteArray)).bind fun t163 => (if t163 = true then ((cadencylaw04_finds.f k y154 (⟨#[]⟩ : ByteArray)).bind fun t164 => (some t164)) else (none))) else (none))) = some r := by rw [if_pos rfl] at H; exact H
          clear H
          have H := H1
          clear H1
          replace H := Option.bind_eq_some_iff.mp H
          obtain ⟨t162, A110, H⟩ := H
          replace H : (if t162 = true then ((cadencylaw04_finds.f k t158 (⟨#[116, 98]⟩ : ByteArray)).bind fun t163 => (if t163 = true then ((cadencylaw04_finds.f k y154 (⟨#[]⟩ : ByteArray)).bind fun t164 => (some t164)) else (none))) else (none)) = some r := H
          have A11 := Aside0.mk A110
          clear A110
          by_cases c12 : t162 = true
          · subst c12
            have H1 : ((cadencylaw04_finds.f k t158 (⟨#[116, 98]⟩ : ByteArray)).bind fun t163 => (if t163 = true then ((cadencylaw04_finds.f k y154 (⟨#[]⟩ : ByteArray)).bind fun t164 => (some t164)) else (none))) = some r := by rw [if_pos rfl] at H; exact H
            clear H
            have H := H1
            clear H1
            replace H := Option.bind_eq_some_iff.mp H
            obtain ⟨t163, A130, H⟩ := H
            replace H : (if t163 = true then ((cadencylaw04_finds.f k y154 (⟨#[]⟩ : ByteArray)).bind fun t164 => (some t164)) else (none)) = some r := H
            have A13 := Aside0.mk A130
            clear A130
            by_cases c14 : t163 = true
            · subst c14
              have H1 : ((cadencylaw04_finds.f k y154 (⟨#[]⟩ : ByteArray)).bind fun t164 => (some t164)) = some r := by rw [if_pos rfl] at H; exact H
              clear H
              have H := H1
              clear H1
              replace H := Option.bind_eq_some_iff.mp H
              obtain ⟨t164, A150, H⟩ := H
              replace H : (some t164) = some r := H
              have A15 := Aside0.mk A150
              clear A150
              obtain rfl := Option.some.inj H
              go_enter Try.func4, Try.ntmps4
              go_wp2_with (first | ((with_reducible refine gate_callee (f := 7) rfl ?_); refine goesL_ (some 9) rfl rfl Try.func7 (by kernel_rfl) rfl #[] rfl (by (try simp only [List.map_toArray, List.map_cons, List.map_nil]); first | done | rfl | (simp only [List.length_drop, List.length_take]; rfl)) ?_; (with_reducible refine (cadencylaw04_awake.calls  true _ A4.out).mono ?_); rintro e w16 ⟨rfl, hb⟩; refine ⟨_, rfl, ?_⟩; have n0_ := Aside0.mk (below_step (by repeat (first | (with_reducible first | exact HB.out | apply below_alloc | apply pw_below_drewN | apply below_drew1) | exact HB.out)) hb); clear HB; have HB := n0_; clear n0_; (try clear hb); (try clear hb2); (try clear hk); (try clear hi); have q17 : (6 : Int) ≤ ((l0.length : Int) : Int) := of_decide_eq_true (by first | (with_reducible assumption) | assumption); obtain ⟨i017, hi017, _, hsz17, _⟩ := info_parts info26; have hroom17 : l0.length ≤ c0 := HC0.out; have hC17 : Kd.C k26 _ A0 l0.length l0 := HR0.out; have hcut17 := cut_to (P := Try.prog) 30 26 .i64 Try.underlying30 hi017 A0 l0.length c0 6 (by omega) q17 hroom17; have hr17 := Kd.C_take (m := 6) hC17 (by omega); have hy17 : y154.length = (6 : Int).toNat := (by rw [Ny154.out, List.length_take]; omega); rw [← Ny154.out] at hr17; rw [← hy17] at hcut17; have HR157 := Aside0.mk hr17; have HC157 := Aside0.mk (show y154.length ≤ c0 from by omega); clear hr17 hC17 hroom17 hi017 hsz17; have KY17 := Aside0.mk hy17; clear hy17; replace q17 := eq_true q17) | ((with_reducible refine gate_callee (f := 10) rfl ?_); refine goesL_ (some 18) rfl rfl Try.func10 (by kernel_rfl) rfl #[.slice A1 l1.length c1, .int .i64 8, .int .i64 (a2.size : Int)] rfl (by (try simp only [List.map_toArray, List.map_cons, List.map_nil]); first | done | rfl | (simp only [List.length_drop, List.length_take]; rfl)) ?_; (with_reducible refine (cadencyref04_Set.calls k (fun k_ => k_ < w.heap.size) _ _ l1 8 (a2.size : Int) t158 _ ?side1 A7.out).mono ?_); (case side1 => exact Kd.V_mk HC1.out (Kd.F_below (Kd.C_F k51_heap HR1.out) (by repeat (first | (with_reducible first | exact HB.out | apply below_alloc | apply pw_below_drewN | apply below_drew1) | exact HB.out)))); rintro e w18 ⟨v159, rfl, ho0, hb⟩; refine ⟨_, rfl, ?_⟩; have n0_ := Aside0.mk (Kd.R_lower (Kd.R_mono (ok' := fun k_ => True) ho0 (fun _ hk_ => trivial)) (below_size (by repeat (first | (with_reducible first | exact HB.out | apply below_alloc | apply pw_below_drewN | apply below_drew1) | exact HB.out)))); have n1_ := Aside0.mk (below_step (by repeat (first | (with_reducible first | exact HB.out | apply below_alloc | apply pw_below_drewN | apply below_drew1) | exact HB.out)) hb); clear HB; have HO160 := n0_; have HB := n1_; clear n0_ n1_; (try clear hb); (try clear hb2); (try clear hk); (try clear hi); (try clear ho0)) | (go_at_call 11; (with_reducible refine (cadencylaw04_finds.calls k _ _ y154 a2 true _ ?side1 ?side2 A9.out).mono ?_); (case side1 => repeat (first | exact (Kd.C_below HR157.out HB.out) | (with_reducible refine Kd.C_alloc ?_ _) | (with_reducible refine Kd.C_drewN ?_ _) | (with_reducible refine Kd.C_drew ?_))); (case side2 => exact HC157.out); rintro e w19 ⟨rfl, hb⟩; have n0_ := Aside0.mk (Kd.R_below (by (with_reducible repeat (first | apply Kd.R_alloc | apply Kd.R_drewN | apply Kd.R_drew)); exact HO160.out) hb); have n1_ := Aside0.mk (below_step (by repeat (first | (with_reducible first | exact HB.out | apply below_alloc | apply pw_below_drewN | apply below_drew1) | exact HB.out)) hb); clear HO160; clear HB; have HO160 := n0_; have HB := n1_; clear n0_ n1_; (try clear hb); (try clear hb2); (try clear hk); (try clear hi); obtain ⟨Ao20, co20, eo20⟩ := Kd.R_slice HO160.out; subst eo20) | (go_at_call 11; (with_reducible refine (cadencylaw04_finds.calls k _ _ t158 a2 true _ ?side1 ?side2 A11.out).mono ?_); (case side1 => repeat (first | exact (Kd.R_reads' HO160.out).2.2 | (with_reducible refine Kd.C_alloc ?_ _) | (with_reducible refine Kd.C_drewN ?_ _) | (with_reducible refine Kd.C_drew ?_))); (case side2 => exact (Kd.R_reads' HO160.out).2.1); rintro e w21 ⟨rfl, hb⟩; have n0_ := Aside0.mk (Kd.R_below (by (with_reducible repeat (first | apply Kd.R_alloc | apply Kd.R_drewN | apply Kd.R_drew)); exact HO160.out) hb); have n1_ := Aside0.mk (below_step (by repeat (first | (with_reducible first | exact HB.out | apply below_alloc | apply pw_below_drewN | apply below_drew1) | exact HB.out)) hb); clear HO160; clear HB; have HO160 := n0_; have HB := n1_; clear n0_ n1_; (try clear hb); (try clear hb2); (try clear hk); (try clear hi)) | (go_at_call 11; (with_reducible refine (cadencylaw04_finds.calls k _ _ t158 (⟨#[116, 98]⟩ : ByteArray) true _ ?side1 ?side2 A13.out).mono ?_); (case side1 => repeat (first | exact (Kd.R_reads' HO160.out).2.2 | (with_reducible refine Kd.C_alloc ?_ _) | (with_reducible refine Kd.C_drewN ?_ _) | (with_reducible refine Kd.C_drew ?_))); (case side2 => exact (Kd.R_reads' HO160.out).2.1); rintro e w22 ⟨rfl, hb⟩; have n0_ := Aside0.mk (Kd.R_below (by (with_reducible repeat (first | apply Kd.R_alloc | apply Kd.R_drewN | apply Kd.R_drew)); exact HO160.out) hb); have n1_ := Aside0.mk (below_step (by repeat (first | (with_reducible first | exact HB.out | apply below_alloc | apply pw_below_drewN | apply below_drew1) | exact HB.out)) hb); clear HO160; clear HB; have HO160 := n0_; have HB := n1_; clear n0_ n1_; (try clear hb); (try clear hb2); (try clear hk); (try clear hi)) | (go_at_call 11; (with_reducible refine (cadencylaw04_finds.calls k _ _ y154 (⟨#[]⟩ : ByteArray) t164 _ ?side1 ?side2 A15.out).mono ?_); (case side1 => repeat (first | exact (Kd.C_below HR157.out HB.out) | (with_reducible refine Kd.C_alloc ?_ _) | (with_reducible refine Kd.C_drewN ?_ _) | (with_reducible refine Kd.C_drew ?_))); (case side2 => exact HC157.out); rintro e w23 ⟨rfl, hb⟩; have n0_ := Aside0.mk (Kd.R_below (by (with_reducible repeat (first | apply Kd.R_alloc | apply Kd.R_drewN | apply Kd.R_drew)); exact HO160.out) hb); have n1_ := Aside0.mk (below_step (by repeat (first | (with_reducible first | exact HB.out | apply below_alloc | apply pw_below_drewN | apply below_drew1) | exact HB.out)) hb); clear HO160; clear HB; have HO160 := n0_; have HB := n1_; clear n0_ n1_; (try clear hb); (try clear hb2); (try clear hk); (try clear hi)))
              go_ret
              exact ⟨by first | rfl | (simp [errW_none, errW_some] <;> rfl) | (simp [*, errW_none, errW_some] <;> rfl), by repeat (first | (with_reducible first | exact HB.out | apply below_alloc | apply pw_below_drewN | apply below_drew1) | exact HB.out)⟩
            · replace c14 := Bool.eq_false_iff.mpr c14
              subst c14
              have H1 : (none) = some r := by rw [if_neg (show ¬ (false = true) by decide)] at H; exact H
              clear H
              have H := H1
              clear H1
              exact absurd H (by simp)
          · replace c12 := Bool.eq_false_iff.mpr c12
            subst c12
            have H1 : (none) = some r := by rw [if_neg (show ¬ (false = true) by decide)] at H; exact H
            clear H
            have H := H1
            clear H1
            exact absurd H (by simp)
        · replace c10 := Bool.eq_false_iff.mpr c10
          subst c10
          have H1 : (none) = some r := by rw [if_neg (show ¬ (false = true) by decide)] at H; exact H
          clear H
          have H := H1
          clear H1
          exact absurd H (by simp)
      · replace c8 := Bool.eq_false_iff.mpr c8
        subst c8
        have H1 : (none) = some r := by rw [if_neg (show ¬ (false = true) by decide)] at H; exact H
        clear H
        have H := H1
        clear H1
        exact absurd H (by simp)
    · rw [if_neg c6] at H
      exact absurd H (by simp)
  · rw [if_neg c5] at H
    have c5b0 : decide (6 < (l0.length : Int)) = false := decide_eq_false c5
    have c5b1 : decide (6 < l0.length) = false := decide_eq_false (by omega)
    clear c5
    replace H := Option.bind_eq_some_iff.mp H
    obtain ⟨t165, A240, H⟩ := H
    replace H : (if t153 = true then ((cadencylaw04_finds.f k l0 a2).bind fun t168 => (if t168 = true then ((cadencylaw04_finds.f k t165 a2).bind fun t169 => (if t169 = true then ((cadencylaw04_finds.f k t165 (⟨#[116, 98]⟩ : ByteArray)).bind fun t170 => (if t170 = true then ((cadencylaw04_finds.f k l0 (⟨#[]⟩ : ByteArray)).bind fun t171 => (some t171)) else (none))) else (none))) else (none))) else (none)) = some r := H
    have A24 := Aside0.mk A240
    clear A240
    by_cases c25 : t153 = true
    · subst c25
      have H1 : ((cadencylaw04_finds.f k l0 a2).bind fun t168 => (if t168 = true then ((cadencylaw04_finds.f k t165 a2).bind fun t169 => (if t169 = true then ((cadencylaw04_finds.f k t165 (⟨#[116, 98]⟩ : ByteArray)).bind fun t170 => (if t170 = true then ((cadencylaw04_finds.f k l0 (⟨#[]⟩ : ByteArray)).bind fun t171 => (some t171)) else (none))) else (none))) else (none))) = some r := by rw [if_pos rfl] at H; exact H
      clear H
      have H := H1
      clear H1
      replace H := Option.bind_eq_some_iff.mp H
      obtain ⟨t168, A260, H⟩ := H
      replace H : (if t168 = true then ((cadencylaw04_finds.f k t165 a2).bind fun t169 => (if t169 = true then ((cadencylaw04_finds.f k t165 (⟨#[116, 98]⟩ : ByteArray)).bind fun t170 => (if t170 = true then ((cadencylaw04_finds.f k l0 (⟨#[]⟩ : ByteArray)).bind fun t171 => (some t171)) else (none))) else (none))) else (none)) = some r := H
      have A26 := Aside0.mk A260
      clear A260
      by_cases c27 : t168 = true
      · subst c27
        have H1 : ((cadencylaw04_finds.f k t165 a2).bind fun t169 => (if t169 = true then ((cadencylaw04_finds.f k t165 (⟨#[116, 98]⟩ : ByteArray)).bind fun t170 => (if t170 = true then ((cadencylaw04_finds.f k l0 (⟨#[]⟩ : ByteArray)).bind fun t171 => (some t171)) else (none))) else (none))) = some r := by rw [if_pos rfl] at H; exact H
        clear H
        have H := H1
        clear H1
        replace H := Option.bind_eq_some_iff.mp H
        obtain ⟨t169, A280, H⟩ := H
        replace H : (if t169 = true then ((cadencylaw04_finds.f k t165 (⟨#[116, 98]⟩ : ByteArray)).bind fun t170 => (if t170 = true then ((cadencylaw04_finds.f k l0 (⟨#[]⟩ : ByteArray)).bind fun t171 => (some t171)) else (none))) else (none)) = some r := H
        have A28 := Aside0.mk A280
        clear A280
        by_cases c29 : t169 = true
        · subst c29
          have H1 : ((cadencylaw04_finds.f k t165 (⟨#[116, 98]⟩ : ByteArray)).bind fun t170 => (if t170 = true then ((cadencylaw04_finds.f k l0 (⟨#[]⟩ : ByteArray)).bind fun t171 => (some t171)) else (none))) = some r := by rw [if_pos rfl] at H; exact H
          clear H
          have H := H1
          clear H1
          replace H := Option.bind_eq_some_iff.mp H
          obtain ⟨t170, A300, H⟩ := H
          replace H : (if t170 = true then ((cadencylaw04_finds.f k l0 (⟨#[]⟩ : ByteArray)).bind fun t171 => (some t171)) else (none)) = some r := H
          have A30 := Aside0.mk A300
          clear A300
          by_cases c31 : t170 = true
          · subst c31
            have H1 : ((cadencylaw04_finds.f k l0 (⟨#[]⟩ : ByteArray)).bind fun t171 => (some t171)) = some r := by rw [if_pos rfl] at H; exact H
            clear H
            have H := H1
            clear H1
            replace H := Option.bind_eq_some_iff.mp H
            obtain ⟨t171, A320, H⟩ := H
            replace H : (some t171) = some r := H
            have A32 := Aside0.mk A320
            clear A320
            obtain rfl := Option.some.inj H
            go_enter Try.func4, Try.ntmps4
            go_wp2_with (first | ((with_reducible refine gate_callee (f := 7) rfl ?_); refine goesL_ (some 9) rfl rfl Try.func7 (by kernel_rfl) rfl #[] rfl (by (try simp only [List.map_toArray, List.map_cons, List.map_nil]); first | done | rfl | (simp only [List.length_drop, List.length_take]; rfl)) ?_; (with_reducible refine (cadencylaw04_awake.calls  true _ A4.out).mono ?_); rintro e w33 ⟨rfl, hb⟩; refine ⟨_, rfl, ?_⟩; have n0_ := Aside0.mk (below_step (by repeat (first | (with_reducible first | exact HB.out | apply below_alloc | apply pw_below_drewN | apply below_drew1) | exact HB.out)) hb); clear HB; have HB := n0_; clear n0_; (try clear hb); (try clear hb2); (try clear hk); (try clear hi)) | ((with_reducible refine gate_callee (f := 10) rfl ?_); refine goesL_ (some 18) rfl rfl Try.func10 (by kernel_rfl) rfl #[.slice A1 l1.length c1, .int .i64 8, .int .i64 (a2.size : Int)] rfl (by (try simp only [List.map_toArray, List.map_cons, List.map_nil]); first | done | rfl | (simp only [List.length_drop, List.length_take]; rfl)) ?_; (with_reducible refine (cadencyref04_Set.calls k (fun k_ => k_ < w.heap.size) _ _ l1 8 (a2.size : Int) t165 _ ?side1 A24.out).mono ?_); (case side1 => exact Kd.V_mk HC1.out (Kd.F_below (Kd.C_F k51_heap HR1.out) (by repeat (first | (with_reducible first | exact HB.out | apply below_alloc | apply pw_below_drewN | apply below_drew1) | exact HB.out)))); rintro e w34 ⟨v166, rfl, ho0, hb⟩; refine ⟨_, rfl, ?_⟩; have n0_ := Aside0.mk (Kd.R_lower (Kd.R_mono (ok' := fun k_ => True) ho0 (fun _ hk_ => trivial)) (below_size (by repeat (first | (with_reducible first | exact HB.out | apply below_alloc | apply pw_below_drewN | apply below_drew1) | exact HB.out)))); have n1_ := Aside0.mk (below_step (by repeat (first | (with_reducible first | exact HB.out | apply below_alloc | apply pw_below_drewN | apply below_drew1) | exact HB.out)) hb); clear HB; have HO167 := n0_; have HB := n1_; clear n0_ n1_; (try clear hb); (try clear hb2); (try clear hk); (try clear hi); (try clear ho0)) | (go_at_call 11; (with_reducible refine (cadencylaw04_finds.calls k _ _ l0 a2 true _ ?side1 ?side2 A26.out).mono ?_); (case side1 => repeat (first | exact (Kd.C_below HR0.out HB.out) | (with_reducible refine Kd.C_alloc ?_ _) | (with_reducible refine Kd.C_drewN ?_ _) | (with_reducible refine Kd.C_drew ?_))); (case side2 => exact HC0.out); rintro e w35 ⟨rfl, hb⟩; have n0_ := Aside0.mk (Kd.R_below (by (with_reducible repeat (first | apply Kd.R_alloc | apply Kd.R_drewN | apply Kd.R_drew)); exact HO167.out) hb); have n1_ := Aside0.mk (below_step (by repeat (first | (with_reducible first | exact HB.out | apply below_alloc | apply pw_below_drewN | apply below_drew1) | exact HB.out)) hb); clear HO167; clear HB; have HO167 := n0_; have HB := n1_; clear n0_ n1_; (try clear hb); (try clear hb2); (try clear hk); (try clear hi); obtain ⟨Ao36, co36, eo36⟩ := Kd.R_slice HO167.out; subst eo36) | (go_at_call 11; (with_reducible refine (cadencylaw04_finds.calls k _ _ t165 a2 true _ ?side1 ?side2 A28.out).mono ?_); (case side1 => repeat (first | exact (Kd.R_reads' HO167.out).2.2 | (with_reducible refine Kd.C_alloc ?_ _) | (with_reducible refine Kd.C_drewN ?_ _) | (with_reducible refine Kd.C_drew ?_))); (case side2 => exact (Kd.R_reads' HO167.out).2.1); rintro e w37 ⟨rfl, hb⟩; have n0_ := Aside0.mk (Kd.R_below (by (with_reducible repeat (first | apply Kd.R_alloc | apply Kd.R_drewN | apply Kd.R_drew)); exact HO167.out) hb); have n1_ := Aside0.mk (below_step (by repeat (first | (with_reducible first | exact HB.out | apply below_alloc | apply pw_below_drewN | apply below_drew1) | exact HB.out)) hb); clear HO167; clear HB; have HO167 := n0_; have HB := n1_; clear n0_ n1_; (try clear hb); (try clear hb2); (try clear hk); (try clear hi)) | (go_at_call 11; (with_reducible refine (cadencylaw04_finds.calls k _ _ t165 (⟨#[116, 98]⟩ : ByteArray) true _ ?side1 ?side2 A30.out).mono ?_); (case side1 => repeat (first | exact (Kd.R_reads' HO167.out).2.2 | (with_reducible refine Kd.C_alloc ?_ _) | (with_reducible refine Kd.C_drewN ?_ _) | (with_reducible refine Kd.C_drew ?_))); (case side2 => exact (Kd.R_reads' HO167.out).2.1); rintro e w38 ⟨rfl, hb⟩; have n0_ := Aside0.mk (Kd.R_below (by (with_reducible repeat (first | apply Kd.R_alloc | apply Kd.R_drewN | apply Kd.R_drew)); exact HO167.out) hb); have n1_ := Aside0.mk (below_step (by repeat (first | (with_reducible first | exact HB.out | apply below_alloc | apply pw_below_drewN | apply below_drew1) | exact HB.out)) hb); clear HO167; clear HB; have HO167 := n0_; have HB := n1_; clear n0_ n1_; (try clear hb); (try clear hb2); (try clear hk); (try clear hi)) | (go_at_call 11; (with_reducible refine (cadencylaw04_finds.calls k _ _ l0 (⟨#[]⟩ : ByteArray) t171 _ ?side1 ?side2 A32.out).mono ?_); (case side1 => repeat (first | exact (Kd.C_below HR0.out HB.out) | (with_reducible refine Kd.C_alloc ?_ _) | (with_reducible refine Kd.C_drewN ?_ _) | (with_reducible refine Kd.C_drew ?_))); (case side2 => exact HC0.out); rintro e w39 ⟨rfl, hb⟩; have n0_ := Aside0.mk (Kd.R_below (by (with_reducible repeat (first | apply Kd.R_alloc | apply Kd.R_drewN | apply Kd.R_drew)); exact HO167.out) hb); have n1_ := Aside0.mk (below_step (by repeat (first | (with_reducible first | exact HB.out | apply below_alloc | apply pw_below_drewN | apply below_drew1) | exact HB.out)) hb); clear HO167; clear HB; have HO167 := n0_; have HB := n1_; clear n0_ n1_; (try clear hb); (try clear hb2); (try clear hk); (try clear hi)))
            go_ret
            exact ⟨by first | rfl | (simp [errW_none, errW_some] <;> rfl) | (simp [*, errW_none, errW_some] <;> rfl), by repeat (first | (with_reducible first | exact HB.out | apply below_alloc | apply pw_below_drewN | apply below_drew1) | exact HB.out)⟩
          · replace c31 := Bool.eq_false_iff.mpr c31
            subst c31
            have H1 : (none) = some r := by rw [if_neg (show ¬ (false = true) by decide)] at H; exact H
            clear H
            have H := H1
            clear H1
            exact absurd H (by simp)
        · replace c29 := Bool.eq_false_iff.mpr c29
          subst c29
          have H1 : (none) = some r := by rw [if_neg (show ¬ (false = true) by decide)] at H; exact H
          clear H
          have H := H1
          clear H1
          exact absurd H (by simp)
      · replace c27 := Bool.eq_false_iff.mpr c27
        subst c27
        have H1 : (none) = some r := by rw [if_neg (show ¬ (false = true) by decide)] at H; exact H
        clear H
        have H := H1
        clear H1
        exact absurd H (by simp)
    · replace c25 := Bool.eq_false_iff.mpr c25
      subst c25
      have H1 : (none) = some r := by rw [if_neg (show ¬ (false = true) by decide)] at H; exact H
      clear H
      have H := H1
      clear H1
      exact absurd H (by simp)

/-- THE ONE PURE STATEMENT of cadencylaw04_TaskFinds: yours. -/
def cadencylaw04_TaskFinds.Pure : Prop := ∀ (l0 : List (S26)) (l1 : List (S51)) (a2 : ByteArray), (l0.length ≤ maxLen ∧ ∀ y2 ∈ l0, (y2.f0.size ≤ maxLen ∧ (Lit.int .i64 y2.f1).wf = true ∧ (Lit.int .i64 y2.f2).wf = true ∧ (Lit.int .i64 y2.f3).wf = true ∧ (Lit.int .i64 y2.f4).wf = true ∧ (Lit.int .i64 y2.f5).wf = true ∧ (Lit.int .i64 y2.f6).wf = true)) → (l1.length ≤ maxLen ∧ ∀ y2 ∈ l1, ((Lit.int .i64 y2.f0).wf = true ∧ (Lit.int .i64 y2.f1).wf = true ∧ (Lit.int .i64 y2.f2).wf = true ∧ (Lit.int .i64 y2.f3).wf = true ∧ (Lit.int .i64 y2.f4).wf = true)) → a2.size ≤ maxLen → ∃ k, cadencylaw04_TaskFinds.f k l0 l1 a2 = some true
theorem cadencylaw04_TaskFinds.walk (P : cadencylaw04_TaskFinds.Pure) (A0 : Option Addr) (c0 : Nat) (l0 : List (S26)) (A1 : Option Addr) (c1 : Nat) (l1 : List (S51)) (a2 : ByteArray) (w : World) (hr0 : Kd.C k26 w A0 l0.length l0) (hc0 : l0.length ≤ c0) (w0 : (l0.length ≤ maxLen ∧ ∀ y2 ∈ l0, (y2.f0.size ≤ maxLen ∧ (Lit.int .i64 y2.f1).wf = true ∧ (Lit.int .i64 y2.f2).wf = true ∧ (Lit.int .i64 y2.f3).wf = true ∧ (Lit.int .i64 y2.f4).wf = true ∧ (Lit.int .i64 y2.f5).wf = true ∧ (Lit.int .i64 y2.f6).wf = true))) (hr1 : Kd.C k51 w A1 l1.length l1) (hc1 : l1.length ≤ c1) (w1 : (l1.length ≤ maxLen ∧ ∀ y2 ∈ l1, ((Lit.int .i64 y2.f0).wf = true ∧ (Lit.int .i64 y2.f1).wf = true ∧ (Lit.int .i64 y2.f2).wf = true ∧ (Lit.int .i64 y2.f3).wf = true ∧ (Lit.int .i64 y2.f4).wf = true))) (w2 : a2.size ≤ maxLen) :
    Calls Try.prog 4 #[.slice A0 l0.length c0, .slice A1 l1.length c1, .string a2] w fun e w' => e = .returned (.bool true) ∧ Below w.heap.size w w' := by
  obtain ⟨k, h⟩ := P l0 l1 a2 w0 w1 w2
  refine (cadencylaw04_TaskFinds.calls k A0 c0 l0 A1 c1 l1 a2 true w hr0 hc0 hr1 hc1 h).mono ?_
  rintro e w' ⟨rfl, hd⟩
  exact ⟨rfl, hd⟩

end Go.Proofs.Ytcheokfoilcdoaa.PAll
