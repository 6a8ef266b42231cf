-- Laid by wip/printx.py, over the print of the kit.
import Derived.Test.YtkgajiddcljdjaaPAllx0
import Derived.Test.YtkgajiddcljdjaaPAllx3
import Derived.Test.YtkgajiddcljdjaaPAllx4
namespace Go.Proofs.Ytkgajiddcljdjaa.PAll
open Go.RowKit Go.Proofs.YtkgajiddcljdjaaW.PrintWords Go.Proofs.YtkgajiddcljdjaaW.PrintLast Go.Proofs.YtkgajiddcljdjaaW.PrintMore
attribute [local go_sem] max2_int min2_int max_two min_two max_three min_three max_four min_four   -- for this text's walks alone
set_option linter.unusedVariables false
set_option linter.unusedSimpArgs false

/-! ### cadencylaw18_awake: function 8 -/
def cadencylaw18_awake.f (k : Nat)  : Option (Bool) := (order_Rank.f k (([2, 0, 1] : List Int))).bind fun bt115 => ((order_Unrank.f 3 5).bind fun bt117 => (if bt115.1 = 4 then (if bt115.2 = true then (if bt117.2 = true then (if (bt117.1.length : Int) = 3 then (if 0 < (bt117.1.length : Int) then (if (rd bt117.1 0) = 2 then (if 1 < (bt117.1.length : Int) then (if (rd bt117.1 1) = 1 then (if 2 < (bt117.1.length : Int) then (some ((rd bt117.1 2) == 0)) else (none)) else (none)) else (none)) else (none)) else (none)) else (none)) else (none)) else (none)) else (none)))
theorem cadencylaw18_awake.mono : ∀ k, LeO (cadencylaw18_awake.f k ) (cadencylaw18_awake.f (k + 1) ) := by
  intro  k
  unfold cadencylaw18_awake.f
  repeat' first
      | (with_reducible exact order_Rank.mono _ _)
      | (with_reducible exact LeO.refl _)
      | (with_reducible exact LeO.none _)
      | (with_reducible refine LeO.ite ?_ ?_)
      | (with_reducible refine LeO.bind ?_ (fun _ => ?_))
      | exact order_Rank.mono _ _
      | exact LeO.none _
      | refine LeO.ite ?_ ?_
      | refine LeO.bind ?_ (fun _ => ?_)
set_option maxHeartbeats 8000000 in
set_option maxRecDepth 100000 in
theorem cadencylaw18_awake.calls (k : Nat)  (r : Bool) (w : World) (h : cadencylaw18_awake.f k  = some r) :
    Calls Try.prog 8 #[] w fun e w' => e = .returned (.bool r) ∧ Below w.heap.size w w' := by
  have HB := Aside0.mk (Below.refl w.heap.size w)
  have H : ((order_Rank.f k (([2, 0, 1] : List Int))).bind fun bt115 => ((order_Unrank.f 3 5).bind fun bt117 => (if bt115.1 = 4 then (if bt115.2 = true then (if bt117.2 = true then (if (bt117.1.length : Int) = 3 then (if 0 < (bt117.1.length : Int) then (if (rd bt117.1 0) = 2 then (if 1 < (bt117.1.length : Int) then (if (rd bt117.1 1) = 1 then (if 2 < (bt117.1.length : Int) then (some ((rd bt117.1 2) == 0)) else (none)) else (none)) else (none)) else (none)) else (none)) else (none)) else (none)) else (none)) else (none)))) = some r := h
  clear h
  obtain ⟨y112, hy112⟩ : ∃ y_ : List Int, y_ = (([2, 0, 1] : List Int)) := ⟨_, rfl⟩
  replace H : ((order_Rank.f k y112).bind fun bt115 => ((order_Unrank.f 3 5).bind fun bt117 => (if bt115.1 = 4 then (if bt115.2 = true then (if bt117.2 = true then (if (bt117.1.length : Int) = 3 then (if 0 < (bt117.1.length : Int) then (if (rd bt117.1 0) = 2 then (if 1 < (bt117.1.length : Int) then (if (rd bt117.1 1) = 1 then (if 2 < (bt117.1.length : Int) then (some ((rd bt117.1 2) == 0)) else (none)) else (none)) else (none)) else (none)) else (none)) else (none)) else (none)) else (none)) else (none)))) = some r := by first | (rw [hy112]; with_reducible exact H) | (have H2_ := (Option.bind_some _ _).symm.trans H; rw [hy112]; with_reducible exact H2_) | (have H2_ := (Option.bind_some _ _).symm.trans H; with_reducible exact H2_) | with_reducible exact H | (rw [hy112]; exact H) | exact H
  have Ny112 := Aside0.mk hy112
  clear hy112
  replace H := Option.bind_eq_some_iff.mp H
  obtain ⟨⟨t115, t116⟩, A10, H⟩ := H
  replace H : ((order_Unrank.f 3 5).bind fun bt117 => (if t115 = 4 then (if t116 = true then (if bt117.2 = true then (if (bt117.1.length : Int) = 3 then (if 0 < (bt117.1.length : Int) then (if (rd bt117.1 0) = 2 then (if 1 < (bt117.1.length : Int) then (if (rd bt117.1 1) = 1 then (if 2 < (bt117.1.length : Int) then (some ((rd bt117.1 2) == 0)) else (none)) else (none)) else (none)) else (none)) else (none)) else (none)) else (none)) else (none)) else (none))) = some r := H
  have A1 := Aside0.mk A10
  clear A10
  replace H := Option.bind_eq_some_iff.mp H
  obtain ⟨⟨t117, t118⟩, A20, H⟩ := H
  replace H : (if t115 = 4 then (if t116 = true then (if t118 = true then (if (t117.length : Int) = 3 then (if 0 < (t117.length : Int) then (if (rd t117 0) = 2 then (if 1 < (t117.length : Int) then (if (rd t117 1) = 1 then (if 2 < (t117.length : Int) then (some ((rd t117 2) == 0)) else (none)) else (none)) else (none)) else (none)) else (none)) else (none)) else (none)) else (none)) else (none)) = some r := H
  have A2 := Aside0.mk A20
  clear A20
  by_cases c3 : t115 = 4
  · rw [if_pos c3] at H
    have c3b0 : (t115 == 4) = true := beq_iff_eq.mpr c3
    have c3b1 : (t115 != 4) = false := bne_eq_false_iff_eq.mpr c3
    clear c3
    by_cases c4 : t116 = true
    · subst c4
      have H1 : (if t118 = true then (if (t117.length : Int) = 3 then (if 0 < (t117.length : Int) then (if (rd t117 0) = 2 then (if 1 < (t117.length : Int) then (if (rd t117 1) = 1 then (if 2 < (t117.length : Int) then (some ((rd t117 2) == 0)) else (none)) else (none)) else (none)) else (none)) else (none)) else (none)) else (none)) = some r := by rw [if_pos rfl] at H; exact H
      clear H
      have H := H1
      clear H1
      by_cases c5 : t118 = true
      · subst c5
        have H1 : (if (t117.length : Int) = 3 then (if 0 < (t117.length : Int) then (if (rd t117 0) = 2 then (if 1 < (t117.length : Int) then (if (rd t117 1) = 1 then (if 2 < (t117.length : Int) then (some ((rd t117 2) == 0)) else (none)) else (none)) else (none)) else (none)) else (none)) else (none)) = some r := by rw [if_pos rfl] at H; exact H
        clear H
        have H := H1
        clear H1
        by_cases c6 : (t117.length : Int) = 3
        · rw [if_pos c6] at H
          have c6b0 : ((t117.length : Int) == 3) = true := beq_iff_eq.mpr c6
          have c6b1 : ((t117.length : Int) != 3) = false := bne_eq_false_iff_eq.mpr c6
          clear c6
          by_cases c7 : 0 < (t117.length : Int)
          · rw [if_pos c7] at H
            have c7b0 : decide (0 < (t117.length : Int)) = true := decide_eq_true c7
            have c7b1 : decide (0 < t117.length) = true := decide_eq_true (by omega)
            clear c7
            by_cases c8 : (rd t117 0) = 2
            · rw [if_pos c8] at H
              have c8b0 : ((rd t117 0) == 2) = true := beq_iff_eq.mpr c8
              have c8b1 : ((rd t117 0) != 2) = false := bne_eq_false_iff_eq.mpr c8
              clear c8
              by_cases c9 : 1 < (t117.length : Int)
              · rw [if_pos c9] at H
                have c9b0 : decide (1 < (t117.length : Int)) = true := decide_eq_true c9
                have c9b1 : decide (1 < t117.length) = true := decide_eq_true (by omega)
                clear c9
                by_cases c10 : (rd t117 1) = 1
                · rw [if_pos c10] at H
                  have c10b0 : ((rd t117 1) == 1) = true := beq_iff_eq.mpr c10
                  have c10b1 : ((rd t117 1) != 1) = false := bne_eq_false_iff_eq.mpr c10
                  clear c10
                  by_cases c11 : 2 < (t117.length : Int)
                  · rw [if_pos c11] at H
                    have c11b0 : decide (2 < (t117.length : Int)) = true := decide_eq_true c11
                    have c11b1 : decide (2 < t117.length) = true := decide_eq_true (by omega)
                    clear c11
                    obtain rfl := Option.some.inj H
                    go_enter Try.func8, Try.ntmps8
                    go_wp2_with (first | ((with_reducible refine gate_dst (N := 6) rfl ?_); (try (refine gate_guard (by rfl) ?_; dsimp only)); refine Kd.R_lit (Kd.int .i64) _ 3 ?hg (N := 6) ?hd (xs := ([2, 0, 1] : List Int)) (inner := [.int .i64 2, .int .i64 0, .int .i64 1]) (ok := fun _ => True) (okp := fun _ => True) ?hr ?hp (fun _ hk => hk) trivial (Below.refl _ _) (Nat.le_refl _) (by simp) ?_; (case hd => rfl); (case hg => rfl); (case hr => first | (go_simp; done) | (go_simp; rfl)); (case hp => exact (Reps.one (show Kd.M (Kd.int .i64) _ _ _ 2 [.int .i64 2] from rfl) (Reps.one (show Kd.M (Kd.int .i64) _ _ _ 0 [.int .i64 0] from rfl) (Reps.one (show Kd.M (Kd.int .i64) _ _ _ 1 [.int .i64 1] from rfl) (Reps.none _ _))))); intro v113 w12 ho13 hb hg_ hnew_; clear hg_ hnew_; (first | rw [← Ny112.out] at ho13 | (simp only [Int.reduceToNat] at ho13; rw [← Ny112.out] at ho13)); have n0_ := Aside0.mk (Kd.R_lower ho13 (below_size (by repeat (first | (with_reducible first | exact HB.out | apply below_alloc | apply pw_below_drewN | apply below_drew1) | exact HB.out)))); have n1_ := Aside0.mk (below_step (by repeat (first | (with_reducible first | exact HB.out | apply below_alloc | apply pw_below_drewN | apply below_drew1) | exact HB.out)) hb); clear HB; have HO114 := n0_; have HB := n1_; clear n0_ n1_; clear hb ho13; obtain ⟨Ao14, co14, eo14⟩ := Kd.R_slice HO114.out; subst eo14) | ((with_reducible refine gate_callee (f := 11) rfl ?_); refine goesL_ (some 7) rfl rfl Try.func11 (by kernel_rfl) rfl #[.slice Ao14 y112.length co14] rfl (by (try simp only [List.map_toArray, List.map_cons, List.map_nil]); first | done | rfl | (simp only [List.length_drop, List.length_take]; rfl)) ?_; (with_reducible refine (order_Rank.calls k _ _ y112 t115 true _ ?side1 ?side2 A1.out).mono ?_); (case side1 => repeat (first | exact (Kd.R_reads' HO114.out).2.2 | (with_reducible refine Kd.C_alloc ?_ _) | (with_reducible refine Kd.C_drewN ?_ _) | (with_reducible refine Kd.C_drew ?_))); (case side2 => exact (Kd.R_reads' HO114.out).2.1); rintro e w15 ⟨rfl, hb⟩; refine ⟨_, rfl, ?_⟩; have n0_ := Aside0.mk (Kd.R_below (by (with_reducible repeat (first | apply Kd.R_alloc | apply Kd.R_drewN | apply Kd.R_drew)); exact HO114.out) hb); have n1_ := Aside0.mk (below_step (by repeat (first | (with_reducible first | exact HB.out | apply below_alloc | apply pw_below_drewN | apply below_drew1) | exact HB.out)) hb); clear HO114; clear HB; have HO114 := n0_; have HB := n1_; clear n0_ n1_; (try clear hb); (try clear hb2); (try clear hk); (try clear hi)) | ((with_reducible refine gate_callee (f := 12) rfl ?_); refine goesL_ (some 11) rfl rfl Try.func12 (by kernel_rfl) rfl #[.int .i64 3, .int .i64 5] rfl (by (try simp only [List.map_toArray, List.map_cons, List.map_nil]); first | done | rfl | (simp only [List.length_drop, List.length_take]; rfl)) ?_; (with_reducible refine (order_Unrank.calls 3 5 t117 true _ A2.out).mono ?_); rintro e w16 ⟨v119, rfl, ho0, hb⟩; refine ⟨_, rfl, ?_⟩; have n0_ := Aside0.mk (Kd.R_elder' (by (with_reducible repeat (first | apply Kd.R_alloc | apply Kd.R_drewN | apply Kd.R_drew)); exact HO114.out) (Kd.R_base ho0) hb); have n1_ := Aside0.mk (Kd.R_lower (Kd.R_new' ho0 (Kd.R_lt (by (with_reducible repeat (first | apply Kd.R_alloc | apply Kd.R_drewN | apply Kd.R_drew)); exact HO114.out))) (below_size (by repeat (first | (with_reducible first | exact HB.out | apply below_alloc | apply pw_below_drewN | apply below_drew1) | exact HB.out)))); have n2_ := Aside0.mk (below_step (by repeat (first | (with_reducible first | exact HB.out | apply below_alloc | apply pw_below_drewN | apply below_drew1) | exact HB.out)) hb); clear HO114; clear HB; have HO114 := n0_; have HO120 := n1_; have HB := n2_; clear n0_ n1_ n2_; (try clear hb); (try clear hb2); (try clear hk); (try clear hi); (try clear ho0); obtain ⟨Ao17, co17, eo17⟩ := Kd.R_slice HO120.out; subst eo17; have p121 : 0 ≤ (0 : Int) := (by omega); have q121 : 0 < (t117.length : Int) := of_decide_eq_true (by first | (with_reducible assumption) | assumption); obtain ⟨ad121, e121, hx121_0⟩ := Kd.at_int (Kd.R_reads' HO120.out).2.2 0 p121 q121; cases e121; have qi121 : (0 < t117.length) = True := eq_true (by omega); (try rw [show ((0 : Int)).toNat = 0 from rfl] at hx121_0); (try rw [Addr.add_zero'] at hx121_0); replace p121 := eq_true p121; replace q121 := eq_true q121; have p122 : 0 ≤ (1 : Int) := (by omega); have q122 : 1 < (t117.length : Int) := of_decide_eq_true (by first | (with_reducible assumption) | assumption); obtain ⟨ad122, e122, hx122_0⟩ := Kd.at_int (Kd.R_reads' HO120.out).2.2 1 p122 q122; obtain rfl : ad121 = ad122 := (by injection e122); (try simp only [show (1 : Int).toNat = 1 from rfl, Nat.reduceMul, Nat.reduceEqDiff, Go.Addr.add, ↓reduceIte] at hx122_0); have qi122 : (1 < t117.length) = True := eq_true (by omega); (try rw [show ((1 : Int)).toNat = 1 from rfl] at hx122_0); replace p122 := eq_true p122; replace q122 := eq_true q122; have p123 : 0 ≤ (2 : Int) := (by omega); have q123 : 2 < (t117.length : Int) := of_decide_eq_true (by first | (with_reducible assumption) | assumption); obtain ⟨ad123, e123, hx123_0⟩ := Kd.at_int (Kd.R_reads' HO120.out).2.2 2 p123 q123; obtain rfl : ad121 = ad123 := (by injection e123); (try simp only [show (2 : Int).toNat = 2 from rfl, Nat.reduceMul, Nat.reduceEqDiff, Go.Addr.add, ↓reduceIte] at hx123_0); have qi123 : (2 < t117.length) = True := eq_true (by omega); (try rw [show ((2 : Int)).toNat = 2 from rfl] at hx123_0); replace p123 := eq_true p123; replace q123 := eq_true q123))
                    go_ret
                    exact ⟨by first | rfl | (simp [errW_none, errW_some] <;> rfl) | (simp [*, errW_none, errW_some] <;> rfl), by repeat (first | (with_reducible first | exact HB.out | apply below_alloc | apply pw_below_drewN | apply below_drew1) | exact HB.out)⟩
                  · rw [if_neg c11] at H
                    exact absurd H (by simp)
                · rw [if_neg c10] at H
                  exact absurd H (by simp)
              · rw [if_neg c9] at H
                exact absurd H (by simp)
            · rw [if_neg c8] at H
              exact absurd H (by simp)
          · rw [if_neg c7] at H
            exact absurd H (by simp)
        · rw [if_neg c6] at H
          exact absurd H (by simp)
      · replace c5 := Bool.eq_false_iff.mpr c5
        subst c5
        have H1 : (none) = some r := by rw [if_neg (show ¬ (false = true) by decide)] at H; exact H
        clear H
        have H := H1
        clear H1
        exact absurd H (by simp)
    · replace c4 := Bool.eq_false_iff.mpr c4
      subst c4
      have H1 : (none) = some r := by rw [if_neg (show ¬ (false = true) by decide)] at H; exact H
      clear H
      have H := H1
      clear H1
      exact absurd H (by simp)
  · rw [if_neg c3] at H
    exact absurd H (by simp)

end Go.Proofs.Ytkgajiddcljdjaa.PAll
