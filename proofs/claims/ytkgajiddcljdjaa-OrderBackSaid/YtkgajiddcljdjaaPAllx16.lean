-- Laid by wip/printx.py, over the print of the kit.
import Derived.Test.YtkgajiddcljdjaaPAllx0
import Derived.Test.YtkgajiddcljdjaaPAllx5
import Derived.Test.YtkgajiddcljdjaaPAllx6
import Derived.Test.YtkgajiddcljdjaaPAllx7
import Derived.Test.YtkgajiddcljdjaaPAllx14
import Derived.Test.YtkgajiddcljdjaaPAllx15
namespace Go.Proofs.Ytkgajiddcljdjaa.PAll
open Go.RowKit Go.Proofs.YtkgajiddcljdjaaW.PrintWords Go.Proofs.YtkgajiddcljdjaaW.PrintLast Go.Proofs.YtkgajiddcljdjaaW.PrintMore
attribute [local go_sem] max2_int min2_int max_two min_two max_three min_three max_four min_four   -- for this text's walks alone
set_option linter.unusedVariables false
set_option linter.unusedSimpArgs false

/-! ### cadencylaw18_OrderTells: function 4 -/
def cadencylaw18_OrderTells.f (k : Nat) (l0 : List Int) (a1 : Int) : Option (Bool) := (cadencylaw18_awake.f k).bind fun t231 => (if (l0.length : Int) > 24 then (if 24 ≤ (l0.length : Int) then (if t231 = true then ((cadencylaw18_tells.f k (l0.take 24)).bind fun t233 => (if t233 = true then ((cadencylaw18_few.f k (l0.take 24)).bind fun t234 => ((cadencylaw18_tells.f k t234).bind fun t237 => (if t237 = true then ((cadencylaw18_rest.f a1 23).bind fun t238 => ((cadencyref18_Made.f k t238 (l0.take 24)).bind fun t239 => ((cadencylaw18_tells.f k t239).bind fun t242 => (if t242 = true then ((cadencylaw18_tells.f k ([] : List Int)).bind fun t243 => (some t243)) else (none))))) else (none)))) else (none))) else (none)) else (none)) else (if t231 = true then ((cadencylaw18_tells.f k l0).bind fun t244 => (if t244 = true then ((cadencylaw18_few.f k l0).bind fun t245 => ((cadencylaw18_tells.f k t245).bind fun t248 => (if t248 = true then ((cadencylaw18_rest.f a1 23).bind fun t249 => ((cadencyref18_Made.f k t249 l0).bind fun t250 => ((cadencylaw18_tells.f k t250).bind fun t253 => (if t253 = true then ((cadencylaw18_tells.f k ([] : List Int)).bind fun t254 => (some t254)) else (none))))) else (none)))) else (none))) else (none)))
theorem cadencylaw18_OrderTells.mono : ∀ a0 a1 k, LeO (cadencylaw18_OrderTells.f k a0 a1) (cadencylaw18_OrderTells.f (k + 1) a0 a1) := by
  intro a0 a1 k
  unfold cadencylaw18_OrderTells.f
  repeat' first
      | (with_reducible exact cadencylaw18_awake.mono _)
      | (with_reducible exact cadencylaw18_few.mono _ _)
      | (with_reducible exact cadencylaw18_tells.mono _ _)
      | (with_reducible exact cadencyref18_Made.mono _ _ _)
      | (with_reducible exact LeO.refl _)
      | (with_reducible exact LeO.none _)
      | (with_reducible refine LeO.ite ?_ ?_)
      | (with_reducible refine LeO.bind ?_ (fun _ => ?_))
      | exact cadencylaw18_awake.mono _
      | exact cadencylaw18_few.mono _ _
      | exact cadencylaw18_tells.mono _ _
      | exact cadencyref18_Made.mono _ _ _
      | exact LeO.none _
      | refine LeO.ite ?_ ?_
      | refine LeO.bind ?_ (fun _ => ?_)
set_option maxHeartbeats 8000000 in
set_option maxRecDepth 100000 in
theorem cadencylaw18_OrderTells.calls (k : Nat) (A0 : Option Addr) (c0 : Nat) (l0 : List Int) (a1 : Int) (r : Bool) (w : World) (hr0 : Kd.C (Kd.int .i64) w A0 l0.length l0) (hc0 : l0.length ≤ c0) (h : cadencylaw18_OrderTells.f k l0 a1 = some r) :
    Calls Try.prog 4 #[.slice A0 l0.length c0, .int .i64 a1] w fun e w' => e = .returned (.bool r) ∧ Below w.heap.size w w' := by
  have HR0 := Aside0.mk hr0
  have HC0 := Aside0.mk hc0
  clear hr0 hc0
  have HB := Aside0.mk (Below.refl w.heap.size w)
  have H : ((cadencylaw18_awake.f k).bind fun t231 => (if (l0.length : Int) > 24 then (if 24 ≤ (l0.length : Int) then (if t231 = true then ((cadencylaw18_tells.f k (l0.take 24)).bind fun t233 => (if t233 = true then ((cadencylaw18_few.f k (l0.take 24)).bind fun t234 => ((cadencylaw18_tells.f k t234).bind fun t237 => (if t237 = true then ((cadencylaw18_rest.f a1 23).bind fun t238 => ((cadencyref18_Made.f k t238 (l0.take 24)).bind fun t239 => ((cadencylaw18_tells.f k t239).bind fun t242 => (if t242 = true then ((cadencylaw18_tells.f k ([] : List Int)).bind fun t243 => (some t243)) else (none))))) else (none)))) else (none))) else (none)) else (none)) else (if t231 = true then ((cadencylaw18_tells.f k l0).bind fun t244 => (if t244 = true then ((cadencylaw18_few.f k l0).bind fun t245 => ((cadencylaw18_tells.f k t245).bind fun t248 => (if t248 = true then ((cadencylaw18_rest.f a1 23).bind fun t249 => ((cadencyref18_Made.f k t249 l0).bind fun t250 => ((cadencylaw18_tells.f k t250).bind fun t253 => (if t253 = true then ((cadencylaw18_tells.f k ([] : List Int)).bind fun t254 => (some t254)) else (none))))) else (none)))) else (none))) else (none)))) = some r := h
  clear h
  obtain ⟨yt_l0_24, hyt_l0_24⟩ : ∃ y_ : List Int, y_ = (l0.take 24) := ⟨_, rfl⟩
  rw [← hyt_l0_24] at H
  replace hyt_l0_24 := Aside0.mk hyt_l0_24
  replace H := Option.bind_eq_some_iff.mp H
  obtain ⟨t231, A30, H⟩ := H
  replace H : (if (l0.length : Int) > 24 then (if 24 ≤ (l0.length : Int) then (if t231 = true then ((cadencylaw18_tells.f k yt_l0_24).bind fun t233 => (if t233 = true then ((cadencylaw18_few.f k yt_l0_24).bind fun t234 => ((cadencylaw18_tells.f k t234).bind fun t237 => (if t237 = true then ((cadencylaw18_rest.f a1 23).bind fun t238 => ((cadencyref18_Made.f k t238 yt_l0_24).bind fun t239 => ((cadencylaw18_tells.f k t239).bind fun t242 => (if t242 = true then ((cadencylaw18_tells.f k ([] : List Int)).bind fun t243 => (some t243)) else (none))))) else (none)))) else (none))) else (none)) else (none)) else (if t231 = true then ((cadencylaw18_tells.f k l0).bind fun t244 => (if t244 = true then ((cadencylaw18_few.f k l0).bind fun t245 => ((cadencylaw18_tells.f k t245).bind fun t248 => (if t248 = true then ((cadencylaw18_rest.f a1 23).bind fun t249 => ((cadencyref18_Made.f k t249 l0).bind fun t250 => ((cadencylaw18_tells.f k t250).bind fun t253 => (if t253 = true then ((cadencylaw18_tells.f k ([] : List Int)).bind fun t254 => (some t254)) else (none))))) else (none)))) else (none))) else (none))) = some r := H
  have A3 := Aside0.mk A30
  clear A30
  by_cases c4 : (l0.length : Int) > 24
  · rw [if_pos c4] at H
    have c4b0 : decide (24 < (l0.length : Int)) = true := decide_eq_true c4
    have c4b1 : decide (24 < l0.length) = true := decide_eq_true (by omega)
    clear c4
    by_cases c5 : 24 ≤ (l0.length : Int)
    · rw [if_pos c5] at H
      have c5b0 := eq_true c5
      have c5b1 : decide (24 ≤ (l0.length : Int)) = true := decide_eq_true c5
      clear c5
      by_cases c6 : t231 = true
      · subst c6
        have H1 : ((cadencylaw18_tells.f k yt_l0_24).bind fun t233 => (if t233 = true then ((cadencylaw18_few.f k yt_l0_24).bind fun t234 => ((cadencylaw18_tells.f k t234).bind fun t237 => (if t237 = true then ((cadencylaw18_rest.f a1 23).bind fun t238 => ((cadencyref18_Made.f k t238 yt_l0_24).bind fun t239 => ((cadencylaw18_tells.f k t239).bind fun t242 => (if t242 = true then ((cadencylaw18_tells.f k ([] : List Int)).bind fun t243 => (some t243)) else (none))))) else (none)))) else (none))) = some r := by rw [if_pos rfl] at H; exact H
        clear H
        have H := H1
        clear H1
        replace H := Option.bind_eq_some_iff.mp H
        obtain ⟨t233, A70, H⟩ := H
        replace H : (if t233 = true then ((cadencylaw18_few.f k yt_l0_24).bind fun t234 => ((cadencylaw18_tells.f k t234).bind fun t237 => (if t237 = true then ((cadencylaw18_rest.f a1 23).bind fun t238 => ((cadencyref18_Made.f k t238 yt_l0_24).bind fun t239 => ((cadencylaw18_tells.f k t239).bind fun t242 => (if t242 = true then ((cadencylaw18_tells.f k ([] : List Int)).bind fun t243 => (some t243)) else (none))))) else (none)))) else (none)) = some r := H
        have A7 := Aside0.mk A70
        clear A70
        by_cases c8 : t233 = true
        · subst c8
          have H1 : ((cadencylaw18_few.f k yt_l0_24).bind fun t234 => ((cadencylaw18_tells.f k t234).bind fun t237 => (if t237 = true then ((cadencylaw18_rest.f a1 23).bind fun t238 => ((cadencyref18_Made.f k t238 yt_l0_24).bind fun t239 => ((cadencylaw18_tells.f k t239).bind fun t242 => (if t242 = true then ((cadencylaw18_tells.f k ([] : List Int)).bind fun t243 => (some t243)) else (none))))) else (none)))) = some r := by rw [if_pos rfl] at H; exact H
          clear H
          have H := H1
          clear H1
          replace H := Option.bind_eq_some_iff.mp H
          obtain ⟨t234, A90, H⟩ := H
          replace H : ((cadencylaw18_tells.f k t234).bind fun t237 => (if t237 = true then ((cadencylaw18_rest.f a1 23).bind fun t238 => ((cadencyref18_Made.f k t238 yt_l0_24).bind fun t239 => ((cadencylaw18_tells.f k t239).bind fun t242 => (if t242 = true then ((cadencylaw18_tells.f k ([] : List Int)).bind fun t243 => (some t243)) else (none))))) else (none))) = some r := H
          have A9 := Aside0.mk A90
          clear A90
          replace H := Option.bind_eq_some_iff.mp H
          obtain ⟨t237, A100, H⟩ := H
          replace H : (if t237 = true then ((cadencylaw18_rest.f a1 23).bind fun t238 => ((cadencyref18_Made.f k t238 yt_l0_24).bind fun t239 => ((cadencylaw18_tells.f k t239).bind fun t242 => (if t242 = true then ((cadencylaw18_tells.f k ([] : List Int)).bind fun t243 => (some t243)) else (none))))) else (none)) = some r := H
          have A10 := Aside0.mk A100
          clear A100
          by_cases c11 : t237 = true
          · subst c11
            have H1 : ((cadencylaw18_rest.f a1 23).bind fun t238 => ((cadencyref18_Made.f k t238 yt_l0_24).bind fun t239 => ((cadencylaw18_tells.f k t239).bind fun t242 => (if t242 = true then ((cadencylaw18_tells.f k ([] : List Int)).bind fun t243 => (some t243)) else (none))))) = some r := by rw [if_pos rfl] at H; exact H
            clear H
            have H := H1
            clear H1
            replace H := Option.bind_eq_some_iff.mp H
            obtain ⟨t238, A120, H⟩ := H
            replace H : ((cadencyref18_Made.f k t238 yt_l0_24).bind fun t239 => ((cadencylaw18_tells.f k t239).bind fun t242 => (if t242 = true then ((cadencylaw18_tells.f k ([] : List Int)).bind fun t243 => (some t243)) else (none)))) = some r := H
            have A12 := Aside0.mk A120
            clear A120
            replace H := Option.bind_eq_some_iff.mp H
            obtain ⟨t239, A130, H⟩ := H
            replace H : ((cadencylaw18_tells.f k t239).bind fun t242 => (if t242 = true then ((cadencylaw18_tells.f k ([] : List Int)).bind fun t243 => (some t243)) else (none))) = some r := H
            have A13 := Aside0.mk A130
            clear A130
            replace H := Option.bind_eq_some_iff.mp H
            obtain ⟨t242, A140, H⟩ := H
            replace H : (if t242 = true then ((cadencylaw18_tells.f k ([] : List Int)).bind fun t243 => (some t243)) else (none)) = some r := H
            have A14 := Aside0.mk A140
            clear A140
            by_cases c15 : t242 = true
            · subst c15
              have H1 : ((cadencylaw18_tells.f k ([] : List Int)).bind fun t243 => (some t243)) = some r := by rw [if_pos rfl] at H; exact H
              clear H
              have H := H1
              clear H1
              replace H := Option.bind_eq_some_iff.mp H
              obtain ⟨t243, A160, H⟩ := H
              replace H : (some t243) = some r := H
              have A16 := Aside0.mk A160
              clear A160
              obtain rfl := Option.some.inj H
              go_enter Try.func4, Try.ntmps4
              go_wp2_with (first | ((with_reducible refine gate_callee (f := 8) rfl ?_); refine goesL_ (some 6) rfl rfl Try.func8 (by kernel_rfl) rfl #[] rfl (by (try simp only [List.map_toArray, List.map_cons, List.map_nil]); first | done | rfl | (simp only [List.length_drop, List.length_take]; rfl)) ?_; (with_reducible refine (cadencylaw18_awake.calls k  true _ A3.out).mono ?_); rintro e w17 ⟨rfl, hb⟩; refine ⟨_, rfl, ?_⟩; have n0_ := Aside0.mk (below_step (by repeat (first | (with_reducible first | exact HB.out | apply below_alloc | apply pw_below_drewN | apply below_drew1) | exact HB.out)) hb); clear HB; have HB := n0_; clear n0_; (try clear hb); (try clear hb2); (try clear hk); (try clear hi); obtain ⟨i018, hi018, _, hsz18, _⟩ := info_parts info3; obtain ⟨hcut18, hA18, hC18⟩ := print_take_of (P := Try.prog) (Value.int .i64) 0 22 3 .i64 Try.underlying22 hi018 hsz18 A0 c0 l0 24 (by omega) (of_decide_eq_true (by first | (with_reducible assumption) | assumption)) HC0.out; simp only [show Int.toNat 24 = 24 from rfl, ← hyt_l0_24.out] at hcut18 hA18 hC18; have HR232 := Aside0.mk (Kd.C_of_reads (h1 := fun _ => rfl) (hA18 _ (Kd.reads_of_C HR0.out))); have HC232 := Aside0.mk hC18; clear hA18 hC18 hi018 hsz18) | (go_at_call 15; (with_reducible refine (cadencylaw18_tells.calls k _ _ yt_l0_24 true _ ?side1 ?side2 A7.out).mono ?_); (case side1 => repeat (first | exact (Kd.C_below HR232.out HB.out) | (with_reducible refine Kd.C_alloc ?_ _) | (with_reducible refine Kd.C_drewN ?_ _) | (with_reducible refine Kd.C_drew ?_))); (case side2 => exact HC232.out); rintro e w19 ⟨rfl, hb⟩; have n0_ := Aside0.mk (below_step (by repeat (first | (with_reducible first | exact HB.out | apply below_alloc | apply pw_below_drewN | apply below_drew1) | exact HB.out)) hb); clear HB; have HB := n0_; clear n0_; (try clear hb); (try clear hb2); (try clear hk); (try clear hi)) | (go_at_call 16; (with_reducible refine (cadencylaw18_few.calls k _ _ yt_l0_24 t234 _ ?side1 ?side2 A9.out).mono ?_); (case side1 => repeat (first | exact (Kd.C_below HR232.out HB.out) | (with_reducible refine Kd.C_alloc ?_ _) | (with_reducible refine Kd.C_drewN ?_ _) | (with_reducible refine Kd.C_drew ?_))); (case side2 => exact HC232.out); rintro e w20 ⟨v235, rfl, ho0, hb⟩; have n0_ := Aside0.mk (Kd.R_lower ho0 (below_size (by repeat (first | (with_reducible first | exact HB.out | apply below_alloc | apply pw_below_drewN | apply below_drew1) | exact HB.out)))); have n1_ := Aside0.mk (below_step (by repeat (first | (with_reducible first | exact HB.out | apply below_alloc | apply pw_below_drewN | apply below_drew1) | exact HB.out)) hb); clear HB; have HO236 := n0_; have HB := n1_; clear n0_ n1_; (try clear hb); (try clear hb2); (try clear hk); (try clear hi); (try clear ho0); obtain ⟨Ao21, co21, eo21⟩ := Kd.R_slice HO236.out; subst eo21) | (go_at_call 15; (with_reducible refine (cadencylaw18_tells.calls k _ _ t234 true _ ?side1 ?side2 A10.out).mono ?_); (case side1 => repeat (first | exact (Kd.R_reads' HO236.out).2.2 | (with_reducible refine Kd.C_alloc ?_ _) | (with_reducible refine Kd.C_drewN ?_ _) | (with_reducible refine Kd.C_drew ?_))); (case side2 => exact (Kd.R_reads' HO236.out).2.1); rintro e w22 ⟨rfl, hb⟩; have n0_ := Aside0.mk (Kd.R_below (by (with_reducible repeat (first | apply Kd.R_alloc | apply Kd.R_drewN | apply Kd.R_drew)); exact HO236.out) hb); have n1_ := Aside0.mk (below_step (by repeat (first | (with_reducible first | exact HB.out | apply below_alloc | apply pw_below_drewN | apply below_drew1) | exact HB.out)) hb); clear HO236; clear HB; have HO236 := n0_; have HB := n1_; clear n0_ n1_; (try clear hb); (try clear hb2); (try clear hk); (try clear hi)) | (go_at_call 9; (with_reducible refine (cadencylaw18_rest.calls a1 23 t238 _ A12.out).mono ?_); rintro e w' ⟨rfl, ⟨nd, rfl⟩⟩) | (go_at_call 10; (with_reducible refine (cadencyref18_Made.calls k t238 _ _ yt_l0_24 t239 _ ?side1 ?side2 A13.out).mono ?_); (case side1 => repeat (first | exact (Kd.C_below HR232.out (by repeat (first | (with_reducible first | exact HB.out | apply below_alloc | apply pw_below_drewN | apply below_drew1) | exact HB.out))) | (with_reducible refine Kd.C_alloc ?_ _) | (with_reducible refine Kd.C_drewN ?_ _) | (with_reducible refine Kd.C_drew ?_))); (case side2 => exact HC232.out); rintro e w23 ⟨v240, rfl, ho0, hb⟩; have n0_ := Aside0.mk (Kd.R_elder' (by (with_reducible repeat (first | apply Kd.R_alloc | apply Kd.R_drewN | apply Kd.R_drew)); exact HO236.out) (Kd.R_base ho0) hb); have n1_ := Aside0.mk (Kd.R_lower (Kd.R_new' ho0 (Kd.R_lt (by (with_reducible repeat (first | apply Kd.R_alloc | apply Kd.R_drewN | apply Kd.R_drew)); exact HO236.out))) (below_size (by repeat (first | (with_reducible first | exact HB.out | apply below_alloc | apply pw_below_drewN | apply below_drew1) | exact HB.out)))); have n2_ := Aside0.mk (below_step (by repeat (first | (with_reducible first | exact HB.out | apply below_alloc | apply pw_below_drewN | apply below_drew1) | exact HB.out)) hb); clear HO236; clear HB; have HO236 := n0_; have HO241 := n1_; have HB := n2_; clear n0_ n1_ n2_; (try clear hb); (try clear hb2); (try clear hk); (try clear hi); (try clear ho0); obtain ⟨Ao24, co24, eo24⟩ := Kd.R_slice HO241.out; subst eo24) | (go_at_call 15; (with_reducible refine (cadencylaw18_tells.calls k _ _ t239 true _ ?side1 ?side2 A14.out).mono ?_); (case side1 => repeat (first | exact (Kd.R_reads' HO241.out).2.2 | (with_reducible refine Kd.C_alloc ?_ _) | (with_reducible refine Kd.C_drewN ?_ _) | (with_reducible refine Kd.C_drew ?_))); (case side2 => exact (Kd.R_reads' HO241.out).2.1); rintro e w25 ⟨rfl, hb⟩; have n0_ := Aside0.mk (Kd.R_below (by (with_reducible repeat (first | apply Kd.R_alloc | apply Kd.R_drewN | apply Kd.R_drew)); exact HO236.out) hb); have n1_ := Aside0.mk (Kd.R_below (by (with_reducible repeat (first | apply Kd.R_alloc | apply Kd.R_drewN | apply Kd.R_drew)); exact HO241.out) hb); have n2_ := Aside0.mk (below_step (by repeat (first | (with_reducible first | exact HB.out | apply below_alloc | apply pw_below_drewN | apply below_drew1) | exact HB.out)) hb); clear HO236; clear HO241; clear HB; have HO236 := n0_; have HO241 := n1_; have HB := n2_; clear n0_ n1_ n2_; (try clear hb); (try clear hb2); (try clear hk); (try clear hi)) | (go_at_call 15; (refine (cadencylaw18_tells.calls k _ _ ([] : List Int) t243 _ ?side1 ?side2 A16.out).mono ?_); (case side1 => exact Kd.C_nil _ _); (case side2 => exact Nat.le_refl _); rintro e w26 ⟨rfl, hb⟩; have n0_ := Aside0.mk (Kd.R_below (by (with_reducible repeat (first | apply Kd.R_alloc | apply Kd.R_drewN | apply Kd.R_drew)); exact HO236.out) hb); have n1_ := Aside0.mk (Kd.R_below (by (with_reducible repeat (first | apply Kd.R_alloc | apply Kd.R_drewN | apply Kd.R_drew)); exact HO241.out) hb); have n2_ := Aside0.mk (below_step (by repeat (first | (with_reducible first | exact HB.out | apply below_alloc | apply pw_below_drewN | apply below_drew1) | exact HB.out)) hb); clear HO236; clear HO241; clear HB; have HO236 := n0_; have HO241 := n1_; have HB := n2_; clear n0_ n1_ n2_; (try clear hb); (try clear hb2); (try clear hk); (try clear hi)))
              go_ret
              exact ⟨by first | rfl | (simp [errW_none, errW_some] <;> rfl) | (simp [*, errW_none, errW_some] <;> rfl), by repeat (first | (with_reducible first | exact HB.out | apply below_alloc | apply pw_below_drewN | apply below_drew1) | exact HB.out)⟩
            · replace c15 := Bool.eq_false_iff.mpr c15
              subst c15
              have H1 : (none) = some r := by rw [if_neg (show ¬ (false = true) by decide)] at H; exact H
              clear H
              have H := H1
              clear H1
              exact absurd H (by simp)
          · replace c11 := Bool.eq_false_iff.mpr c11
            subst c11
            have H1 : (none) = some r := by rw [if_neg (show ¬ (false = true) by decide)] at H; exact H
            clear H
            have H := H1
            clear H1
            exact absurd H (by simp)
        · replace c8 := Bool.eq_false_iff.mpr c8
          subst c8
          have H1 : (none) = some r := by rw [if_neg (show ¬ (false = true) by decide)] at H; exact H
          clear H
          have H := H1
          clear H1
          exact absurd H (by simp)
      · replace c6 := Bool.eq_false_iff.mpr c6
        subst c6
        have H1 : (none) = some r := by rw [if_neg (show ¬ (false = true) by decide)] at H; exact H
        clear H
        have H := H1
        clear H1
        exact absurd H (by simp)
    · rw [if_neg c5] at H
      exact absurd H (by simp)
  · rw [if_neg c4] at H
    have c4b0 : decide (24 < (l0.length : Int)) = false := decide_eq_false c4
    have c4b1 : decide (24 < l0.length) = false := decide_eq_false (by omega)
    clear c4
    by_cases c27 : t231 = true
    · subst c27
      have H1 : ((cadencylaw18_tells.f k l0).bind fun t244 => (if t244 = true then ((cadencylaw18_few.f k l0).bind fun t245 => ((cadencylaw18_tells.f k t245).bind fun t248 => (if t248 = true then ((cadencylaw18_rest.f a1 23).bind fun t249 => ((cadencyref18_Made.f k t249 l0).bind fun t250 => ((cadencylaw18_tells.f k t250).bind fun t253 => (if t253 = true then ((cadencylaw18_tells.f k ([] : List Int)).bind fun t254 => (some t254)) else (none))))) else (none)))) else (none))) = some r := by rw [if_pos rfl] at H; exact H
      clear H
      have H := H1
      clear H1
      replace H := Option.bind_eq_some_iff.mp H
      obtain ⟨t244, A280, H⟩ := H
      replace H : (if t244 = true then ((cadencylaw18_few.f k l0).bind fun t245 => ((cadencylaw18_tells.f k t245).bind fun t248 => (if t248 = true then ((cadencylaw18_rest.f a1 23).bind fun t249 => ((cadencyref18_Made.f k t249 l0).bind fun t250 => ((cadencylaw18_tells.f k t250).bind fun t253 => (if t253 = true then ((cadencylaw18_tells.f k ([] : List Int)).bind fun t254 => (some t254)) else (none))))) else (none)))) else (none)) = some r := H
      have A28 := Aside0.mk A280
      clear A280
      by_cases c29 : t244 = true
      · subst c29
        have H1 : ((cadencylaw18_few.f k l0).bind fun t245 => ((cadencylaw18_tells.f k t245).bind fun t248 => (if t248 = true then ((cadencylaw18_rest.f a1 23).bind fun t249 => ((cadencyref18_Made.f k t249 l0).bind fun t250 => ((cadencylaw18_tells.f k t250).bind fun t253 => (if t253 = true then ((cadencylaw18_tells.f k ([] : List Int)).bind fun t254 => (some t254)) else (none))))) else (none)))) = some r := by rw [if_pos rfl] at H; exact H
        clear H
        have H := H1
        clear H1
        replace H := Option.bind_eq_some_iff.mp H
        obtain ⟨t245, A300, H⟩ := H
        replace H : ((cadencylaw18_tells.f k t245).bind fun t248 => (if t248 = true then ((cadencylaw18_rest.f a1 23).bind fun t249 => ((cadencyref18_Made.f k t249 l0).bind fun t250 => ((cadencylaw18_tells.f k t250).bind fun t253 => (if t253 = true then ((cadencylaw18_tells.f k ([] : List Int)).bind fun t254 => (some t254)) else (none))))) else (none))) = some r := H
        have A30 := Aside0.mk A300
        clear A300
        replace H := Option.bind_eq_some_iff.mp H
        obtain ⟨t248, A310, H⟩ := H
        replace H : (if t248 = true then ((cadencylaw18_rest.f a1 23).bind fun t249 => ((cadencyref18_Made.f k t249 l0).bind fun t250 => ((cadencylaw18_tells.f k t250).bind fun t253 => (if t253 = true then ((cadencylaw18_tells.f k ([] : List Int)).bind fun t254 => (some t254)) else (none))))) else (none)) = some r := H
        have A31 := Aside0.mk A310
        clear A310
        by_cases c32 : t248 = true
        · subst c32
          have H1 : ((cadencylaw18_rest.f a1 23).bind fun t249 => ((cadencyref18_Made.f k t249 l0).bind fun t250 => ((cadencylaw18_tells.f k t250).bind fun t253 => (if t253 = true then ((cadencylaw18_tells.f k ([] : List Int)).bind fun t254 => (some t254)) else (none))))) = some r := by rw [if_pos rfl] at H; exact H
          clear H
          have H := H1
          clear H1
          replace H := Option.bind_eq_some_iff.mp H
          obtain ⟨t249, A330, H⟩ := H
          replace H : ((cadencyref18_Made.f k t249 l0).bind fun t250 => ((cadencylaw18_tells.f k t250).bind fun t253 => (if t253 = true then ((cadencylaw18_tells.f k ([] : List Int)).bind fun t254 => (some t254)) else (none)))) = some r := H
          have A33 := Aside0.mk A330
          clear A330
          replace H := Option.bind_eq_some_iff.mp H
          obtain ⟨t250, A340, H⟩ := H
          replace H : ((cadencylaw18_tells.f k t250).bind fun t253 => (if t253 = true then ((cadencylaw18_tells.f k ([] : List Int)).bind fun t254 => (some t254)) else (none))) = some r := H
          have A34 := Aside0.mk A340
          clear A340
          replace H := Option.bind_eq_some_iff.mp H
          obtain ⟨t253, A350, H⟩ := H
          replace H : (if t253 = true then ((cadencylaw18_tells.f k ([] : List Int)).bind fun t254 => (some t254)) else (none)) = some r := H
          have A35 := Aside0.mk A350
          clear A350
          by_cases c36 : t253 = true
          · subst c36
            have H1 : ((cadencylaw18_tells.f k ([] : List Int)).bind fun t254 => (some t254)) = some r := by rw [if_pos rfl] at H; exact H
            clear H
            have H := H1
            clear H1
            replace H := Option.bind_eq_some_iff.mp H
            obtain ⟨t254, A370, H⟩ := H
            replace H : (some t254) = some r := H
            have A37 := Aside0.mk A370
            clear A370
            obtain rfl := Option.some.inj H
            go_enter Try.func4, Try.ntmps4
            go_wp2_with (first | ((with_reducible refine gate_callee (f := 8) rfl ?_); refine goesL_ (some 6) rfl rfl Try.func8 (by kernel_rfl) rfl #[] rfl (by (try simp only [List.map_toArray, List.map_cons, List.map_nil]); first | done | rfl | (simp only [List.length_drop, List.length_take]; rfl)) ?_; (with_reducible refine (cadencylaw18_awake.calls k  true _ A3.out).mono ?_); rintro e w38 ⟨rfl, hb⟩; refine ⟨_, rfl, ?_⟩; have n0_ := Aside0.mk (below_step (by repeat (first | (with_reducible first | exact HB.out | apply below_alloc | apply pw_below_drewN | apply below_drew1) | exact HB.out)) hb); clear HB; have HB := n0_; clear n0_; (try clear hb); (try clear hb2); (try clear hk); (try clear hi)) | (go_at_call 15; (with_reducible refine (cadencylaw18_tells.calls k _ _ l0 true _ ?side1 ?side2 A28.out).mono ?_); (case side1 => repeat (first | exact (Kd.C_below HR0.out HB.out) | (with_reducible refine Kd.C_alloc ?_ _) | (with_reducible refine Kd.C_drewN ?_ _) | (with_reducible refine Kd.C_drew ?_))); (case side2 => exact HC0.out); rintro e w39 ⟨rfl, hb⟩; have n0_ := Aside0.mk (below_step (by repeat (first | (with_reducible first | exact HB.out | apply below_alloc | apply pw_below_drewN | apply below_drew1) | exact HB.out)) hb); clear HB; have HB := n0_; clear n0_; (try clear hb); (try clear hb2); (try clear hk); (try clear hi)) | (go_at_call 16; (with_reducible refine (cadencylaw18_few.calls k _ _ l0 t245 _ ?side1 ?side2 A30.out).mono ?_); (case side1 => repeat (first | exact (Kd.C_below HR0.out HB.out) | (with_reducible refine Kd.C_alloc ?_ _) | (with_reducible refine Kd.C_drewN ?_ _) | (with_reducible refine Kd.C_drew ?_))); (case side2 => exact HC0.out); rintro e w40 ⟨v246, rfl, ho0, hb⟩; have n0_ := Aside0.mk (Kd.R_lower ho0 (below_size (by repeat (first | (with_reducible first | exact HB.out | apply below_alloc | apply pw_below_drewN | apply below_drew1) | exact HB.out)))); have n1_ := Aside0.mk (below_step (by repeat (first | (with_reducible first | exact HB.out | apply below_alloc | apply pw_below_drewN | apply below_drew1) | exact HB.out)) hb); clear HB; have HO247 := n0_; have HB := n1_; clear n0_ n1_; (try clear hb); (try clear hb2); (try clear hk); (try clear hi); (try clear ho0); obtain ⟨Ao41, co41, eo41⟩ := Kd.R_slice HO247.out; subst eo41) | (go_at_call 15; (with_reducible refine (cadencylaw18_tells.calls k _ _ t245 true _ ?side1 ?side2 A31.out).mono ?_); (case side1 => repeat (first | exact (Kd.R_reads' HO247.out).2.2 | (with_reducible refine Kd.C_alloc ?_ _) | (with_reducible refine Kd.C_drewN ?_ _) | (with_reducible refine Kd.C_drew ?_))); (case side2 => exact (Kd.R_reads' HO247.out).2.1); rintro e w42 ⟨rfl, hb⟩; have n0_ := Aside0.mk (Kd.R_below (by (with_reducible repeat (first | apply Kd.R_alloc | apply Kd.R_drewN | apply Kd.R_drew)); exact HO247.out) hb); have n1_ := Aside0.mk (below_step (by repeat (first | (with_reducible first | exact HB.out | apply below_alloc | apply pw_below_drewN | apply below_drew1) | exact HB.out)) hb); clear HO247; clear HB; have HO247 := n0_; have HB := n1_; clear n0_ n1_; (try clear hb); (try clear hb2); (try clear hk); (try clear hi)) | (go_at_call 9; (with_reducible refine (cadencylaw18_rest.calls a1 23 t249 _ A33.out).mono ?_); rintro e w' ⟨rfl, ⟨nd, rfl⟩⟩) | (go_at_call 10; (with_reducible refine (cadencyref18_Made.calls k t249 _ _ l0 t250 _ ?side1 ?side2 A34.out).mono ?_); (case side1 => repeat (first | exact (Kd.C_below HR0.out (by repeat (first | (with_reducible first | exact HB.out | apply below_alloc | apply pw_below_drewN | apply below_drew1) | exact HB.out))) | (with_reducible refine Kd.C_alloc ?_ _) | (with_reducible refine Kd.C_drewN ?_ _) | (with_reducible refine Kd.C_drew ?_))); (case side2 => exact HC0.out); rintro e w43 ⟨v251, rfl, ho0, hb⟩; have n0_ := Aside0.mk (Kd.R_elder' (by (with_reducible repeat (first | apply Kd.R_alloc | apply Kd.R_drewN | apply Kd.R_drew)); exact HO247.out) (Kd.R_base ho0) hb); have n1_ := Aside0.mk (Kd.R_lower (Kd.R_new' ho0 (Kd.R_lt (by (with_reducible repeat (first | apply Kd.R_alloc | apply Kd.R_drewN | apply Kd.R_drew)); exact HO247.out))) (below_size (by repeat (first | (with_reducible first | exact HB.out | apply below_alloc | apply pw_below_drewN | apply below_drew1) | exact HB.out)))); have n2_ := Aside0.mk (below_step (by repeat (first | (with_reducible first | exact HB.out | apply below_alloc | apply pw_below_drewN | apply below_drew1) | exact HB.out)) hb); clear HO247; clear HB; have HO247 := n0_; have HO252 := n1_; have HB := n2_; clear n0_ n1_ n2_; (try clear hb); (try clear hb2); (try clear hk); (try clear hi); (try clear ho0); obtain ⟨Ao44, co44, eo44⟩ := Kd.R_slice HO252.out; subst eo44) | (go_at_call 15; (with_reducible refine (cadencylaw18_tells.calls k _ _ t250 true _ ?side1 ?side2 A35.out).mono ?_); (case side1 => repeat (first | exact (Kd.R_reads' HO252.out).2.2 | (with_reducible refine Kd.C_alloc ?_ _) | (with_reducible refine Kd.C_drewN ?_ _) | (with_reducible refine Kd.C_drew ?_))); (case side2 => exact (Kd.R_reads' HO252.out).2.1); rintro e w45 ⟨rfl, hb⟩; have n0_ := Aside0.mk (Kd.R_below (by (with_reducible repeat (first | apply Kd.R_alloc | apply Kd.R_drewN | apply Kd.R_drew)); exact HO247.out) hb); have n1_ := Aside0.mk (Kd.R_below (by (with_reducible repeat (first | apply Kd.R_alloc | apply Kd.R_drewN | apply Kd.R_drew)); exact HO252.out) hb); have n2_ := Aside0.mk (below_step (by repeat (first | (with_reducible first | exact HB.out | apply below_alloc | apply pw_below_drewN | apply below_drew1) | exact HB.out)) hb); clear HO247; clear HO252; clear HB; have HO247 := n0_; have HO252 := n1_; have HB := n2_; clear n0_ n1_ n2_; (try clear hb); (try clear hb2); (try clear hk); (try clear hi)) | (go_at_call 15; (refine (cadencylaw18_tells.calls k _ _ ([] : List Int) t254 _ ?side1 ?side2 A37.out).mono ?_); (case side1 => exact Kd.C_nil _ _); (case side2 => exact Nat.le_refl _); rintro e w46 ⟨rfl, hb⟩; have n0_ := Aside0.mk (Kd.R_below (by (with_reducible repeat (first | apply Kd.R_alloc | apply Kd.R_drewN | apply Kd.R_drew)); exact HO247.out) hb); have n1_ := Aside0.mk (Kd.R_below (by (with_reducible repeat (first | apply Kd.R_alloc | apply Kd.R_drewN | apply Kd.R_drew)); exact HO252.out) hb); have n2_ := Aside0.mk (below_step (by repeat (first | (with_reducible first | exact HB.out | apply below_alloc | apply pw_below_drewN | apply below_drew1) | exact HB.out)) hb); clear HO247; clear HO252; clear HB; have HO247 := n0_; have HO252 := n1_; have HB := n2_; clear n0_ n1_ n2_; (try clear hb); (try clear hb2); (try clear hk); (try clear hi)))
            go_ret
            exact ⟨by first | rfl | (simp [errW_none, errW_some] <;> rfl) | (simp [*, errW_none, errW_some] <;> rfl), by repeat (first | (with_reducible first | exact HB.out | apply below_alloc | apply pw_below_drewN | apply below_drew1) | exact HB.out)⟩
          · replace c36 := Bool.eq_false_iff.mpr c36
            subst c36
            have H1 : (none) = some r := by rw [if_neg (show ¬ (false = true) by decide)] at H; exact H
            clear H
            have H := H1
            clear H1
            exact absurd H (by simp)
        · replace c32 := Bool.eq_false_iff.mpr c32
          subst c32
          have H1 : (none) = some r := by rw [if_neg (show ¬ (false = true) by decide)] at H; exact H
          clear H
          have H := H1
          clear H1
          exact absurd H (by simp)
      · replace c29 := Bool.eq_false_iff.mpr c29
        subst c29
        have H1 : (none) = some r := by rw [if_neg (show ¬ (false = true) by decide)] at H; exact H
        clear H
        have H := H1
        clear H1
        exact absurd H (by simp)
    · replace c27 := Bool.eq_false_iff.mpr c27
      subst c27
      have H1 : (none) = some r := by rw [if_neg (show ¬ (false = true) by decide)] at H; exact H
      clear H
      have H := H1
      clear H1
      exact absurd H (by simp)

/-- THE ONE PURE STATEMENT of cadencylaw18_OrderTells: yours. -/
def cadencylaw18_OrderTells.Pure : Prop := ∀ (l0 : List Int) (a1 : Int), l0.length ≤ maxLen → l0.length * 8 ≤ 140737488351232 → (∀ x ∈ l0, (Lit.int .i64 x).wf = true) → (Lit.int .i64 a1).wf = true → ∃ k, cadencylaw18_OrderTells.f k l0 a1 = some true
theorem cadencylaw18_OrderTells.walk (P : cadencylaw18_OrderTells.Pure) (a0 : Option Addr) (len0 cap0 : Nat) (z0 : List Int) (a1 : Int) (w : World) (w0 : (a0 = none ∧ len0 = 0 ∧ cap0 = 0 ∧ z0 = []) ∨ ∃ x, a0 = some x ∧ len0 ≤ cap0 ∧ cap0 ≤ maxLen ∧ z0.length = cap0 ∧ (∀ i, i < z0.length → w.cell? (x.add i) = some (.int .i64 (z0.getD i 0))) ∧ ∀ n ∈ z0, (Lit.int .i64 n).wf = true) (y0 : len0 * 8 ≤ 140737488351232) (w1 : (Lit.int .i64 a1).wf = true) :
    Calls Try.prog 4 #[.slice a0 len0 cap0, .int .i64 a1] w fun e w' => e = .returned (.bool true) ∧ Below w.heap.size w w' := by
  obtain ⟨l0, rfl, hr0, hm0, hw0, hc0⟩ := ReadsInt.ofRowC w0
  obtain ⟨k, h⟩ := P l0 a1 hm0 y0 hw0 w1
  refine (cadencylaw18_OrderTells.calls k _ _ l0 a1 true w (Kd.C_of_reads (d := (0 : Int)) (h1 := fun _ => rfl) hr0) hc0 h).mono ?_
  rintro e w' ⟨rfl, hd⟩
  exact ⟨rfl, hd⟩

end Go.Proofs.Ytkgajiddcljdjaa.PAll
