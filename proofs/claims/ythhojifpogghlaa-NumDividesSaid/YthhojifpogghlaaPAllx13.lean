-- Laid by wip/printx.py, over the print of the kit.
import Derived.Test.YthhojifpogghlaaPAllx0
import Derived.Test.YthhojifpogghlaaPAllx3
import Derived.Test.YthhojifpogghlaaPAllx5
import Derived.Test.YthhojifpogghlaaPAllx9
namespace Go.Proofs.Ythhojifpogghlaa.PAll
open Go.RowKit Go.Proofs.YthhojifpogghlaaW.PrintWords Go.Proofs.YthhojifpogghlaaW.PrintLast Go.Proofs.YthhojifpogghlaaW.PrintMore
attribute [local go_sem] max2_int min2_int max_two min_two max_three min_three max_four min_four   -- for this text's walks alone
set_option linter.unusedVariables false
set_option linter.unusedSimpArgs false

/-! ### cadencylaw01_NumDivides: function 4 -/
def cadencylaw01_NumDivides.j0 : Nat → Bool → Int → Int → Int → Int → Int → Bool → Bool → Option (Bool)
  | 0, _, _, _, _, _, _, _, _ => none
  | k + 1, x7, x8, x9, x10, x11, x12, x13, x36 => if x36 = true then (if x7 = true then (if x11 = (IntKind.u64.wrap (x8 + x9)) then (if x13 = true then (some false) else (some (x12 == 0))) else (some false)) else (some false)) else (if x11 = 0 then (some false) else (if (Int.tmod x8 x11) = 0 then (if (Int.tmod x9 x11) = 0 then (if x13 = true then (if x8 = 0 then (none) else (if (Int.tmod x12 x8) = 0 then (if x9 = 0 then (none) else (if (Int.tmod x12 x9) = 0 then (if (IntKind.u64.wrap ((IntKind.u64.wrap (Int.tdiv x12 x8)) * x11)) = x9 then (if x7 = true then (if x10 = 0 then (none) else (if (Int.tmod x8 x10) = 0 then (some (((Int.tmod x9 x10) == 0) == ((Int.tmod x11 x10) == 0))) else (some (false == ((Int.tmod x11 x10) == 0))))) else (some false)) else (some false)) else (some false))) else (some false))) else (some false)) else (some false)) else (some false)))
def cadencylaw01_NumDivides.f (k : Nat) (a0 : Int) (a1 : Int) (a2 : Int) : Option (Bool) := (cadencylaw01_awake.f k).bind fun t140 => ((num_Gcd.f (a0 / 4294967296) (a1 / 4294967296)).bind fun t141 => ((num_Lcm.f k (a0 / 4294967296) (a1 / 4294967296)).bind fun bt142 => (if (a0 / 4294967296) = 0 then (cadencylaw01_NumDivides.j0 k t140 (a0 / 4294967296) (a1 / 4294967296) (IntKind.u64.wrap ((a2 / 281474976710656) + 1)) t141 bt142.1 bt142.2 true) else (cadencylaw01_NumDivides.j0 k t140 (a0 / 4294967296) (a1 / 4294967296) (IntKind.u64.wrap ((a2 / 281474976710656) + 1)) t141 bt142.1 bt142.2 ((a1 / 4294967296) == 0)))))
theorem cadencylaw01_NumDivides.mono_l : ∀ k, (∀ y0 y1 y2 y3 y4 y5 y6 y7, LeO (cadencylaw01_NumDivides.j0 k y0 y1 y2 y3 y4 y5 y6 y7) (cadencylaw01_NumDivides.j0 (k + 1) y0 y1 y2 y3 y4 y5 y6 y7))
  | 0 => fun _ _ _ _ _ _ _ _ r h => by simp [cadencylaw01_NumDivides.j0] at h
  | k + 1 => by
    have ih0 := cadencylaw01_NumDivides.mono_l k
    · intro y0 y1 y2 y3 y4 y5 y6 y7
      unfold cadencylaw01_NumDivides.j0
      repeat' first
      | (with_reducible exact ih0 _ _ _ _ _ _ _ _)
      | (with_reducible exact cadencylaw01_awake.mono _)
      | (with_reducible exact num_Lcm.mono _ _ _)
      | (with_reducible exact LeO.refl _)
      | (with_reducible exact LeO.none _)
      | (with_reducible refine LeO.ite ?_ ?_)
      | (with_reducible refine LeO.bind ?_ (fun _ => ?_))
      | exact ih0 _ _ _ _ _ _ _ _
      | exact cadencylaw01_awake.mono _
      | exact num_Lcm.mono _ _ _
      | exact LeO.none _
      | refine LeO.ite ?_ ?_
      | refine LeO.bind ?_ (fun _ => ?_)
theorem cadencylaw01_NumDivides.mono : ∀ a0 a1 a2 k, LeO (cadencylaw01_NumDivides.f k a0 a1 a2) (cadencylaw01_NumDivides.f (k + 1) a0 a1 a2) := by
  intro a0 a1 a2 k
  have ih0 := cadencylaw01_NumDivides.mono_l k
  unfold cadencylaw01_NumDivides.f
  repeat' first
      | (with_reducible exact ih0 _ _ _ _ _ _ _ _)
      | (with_reducible exact cadencylaw01_awake.mono _)
      | (with_reducible exact num_Lcm.mono _ _ _)
      | (with_reducible exact LeO.refl _)
      | (with_reducible exact LeO.none _)
      | (with_reducible refine LeO.ite ?_ ?_)
      | (with_reducible refine LeO.bind ?_ (fun _ => ?_))
      | exact ih0 _ _ _ _ _ _ _ _
      | exact cadencylaw01_awake.mono _
      | exact num_Lcm.mono _ _ _
      | exact LeO.none _
      | refine LeO.ite ?_ ?_
      | refine LeO.bind ?_ (fun _ => ?_)
set_option maxHeartbeats 8000000 in
set_option maxRecDepth 100000 in
theorem cadencylaw01_NumDivides.calls (k : Nat) (a0 : Int) (a1 : Int) (a2 : Int) (r : Bool) (w : World) (h : cadencylaw01_NumDivides.f k a0 a1 a2 = some r) :
    Calls Try.prog 4 #[.int .u64 a0, .int .u64 a1, .int .u64 a2] w fun e w' => e = .returned (.bool r) ∧ Below w.heap.size w w' := by
  have HB := Aside0.mk (Below.refl w.heap.size w)
  have H : ((cadencylaw01_awake.f k).bind fun t140 => ((num_Gcd.f (a0 / 4294967296) (a1 / 4294967296)).bind fun t141 => ((num_Lcm.f k (a0 / 4294967296) (a1 / 4294967296)).bind fun bt142 => (if (a0 / 4294967296) = 0 then (cadencylaw01_NumDivides.j0 k t140 (a0 / 4294967296) (a1 / 4294967296) (IntKind.u64.wrap ((a2 / 281474976710656) + 1)) t141 bt142.1 bt142.2 true) else (cadencylaw01_NumDivides.j0 k t140 (a0 / 4294967296) (a1 / 4294967296) (IntKind.u64.wrap ((a2 / 281474976710656) + 1)) t141 bt142.1 bt142.2 ((a1 / 4294967296) == 0)))))) = some r := h
  clear h
  replace H := Option.bind_eq_some_iff.mp H
  obtain ⟨t140, A40, H⟩ := H
  replace H : ((num_Gcd.f (a0 / 4294967296) (a1 / 4294967296)).bind fun t141 => ((num_Lcm.f k (a0 / 4294967296) (a1 / 4294967296)).bind fun bt142 => (if (a0 / 4294967296) = 0 then (cadencylaw01_NumDivides.j0 k t140 (a0 / 4294967296) (a1 / 4294967296) (IntKind.u64.wrap ((a2 / 281474976710656) + 1)) t141 bt142.1 bt142.2 true) else (cadencylaw01_NumDivides.j0 k t140 (a0 / 4294967296) (a1 / 4294967296) (IntKind.u64.wrap ((a2 / 281474976710656) + 1)) t141 bt142.1 bt142.2 ((a1 / 4294967296) == 0))))) = some r := H
  have A4 := Aside0.mk A40
  clear A40
  replace H := Option.bind_eq_some_iff.mp H
  obtain ⟨t141, A50, H⟩ := H
  replace H : ((num_Lcm.f k (a0 / 4294967296) (a1 / 4294967296)).bind fun bt142 => (if (a0 / 4294967296) = 0 then (cadencylaw01_NumDivides.j0 k t140 (a0 / 4294967296) (a1 / 4294967296) (IntKind.u64.wrap ((a2 / 281474976710656) + 1)) t141 bt142.1 bt142.2 true) else (cadencylaw01_NumDivides.j0 k t140 (a0 / 4294967296) (a1 / 4294967296) (IntKind.u64.wrap ((a2 / 281474976710656) + 1)) t141 bt142.1 bt142.2 ((a1 / 4294967296) == 0)))) = some r := H
  have A5 := Aside0.mk A50
  clear A50
  replace H := Option.bind_eq_some_iff.mp H
  obtain ⟨⟨t142, t143⟩, A60, H⟩ := H
  replace H : (if (a0 / 4294967296) = 0 then (cadencylaw01_NumDivides.j0 k t140 (a0 / 4294967296) (a1 / 4294967296) (IntKind.u64.wrap ((a2 / 281474976710656) + 1)) t141 t142 t143 true) else (cadencylaw01_NumDivides.j0 k t140 (a0 / 4294967296) (a1 / 4294967296) (IntKind.u64.wrap ((a2 / 281474976710656) + 1)) t141 t142 t143 ((a1 / 4294967296) == 0))) = some r := H
  have A6 := Aside0.mk A60
  clear A60
  have HC7 := Aside0.mk H
  clear H
  go_enter Try.func4, Try.ntmps4
  go_upto_region 7 with (first | (go_at_call 11; (with_reducible refine (cadencylaw01_awake.calls k  t140 _ A4.out).mono ?_); rintro e w8 ⟨rfl, hb⟩; have n0_ := Aside0.mk (below_step (by repeat (first | (with_reducible first | exact HB.out | apply below_alloc | apply pw_below_drewN | apply below_drew1) | exact HB.out)) hb); clear HB; have HB := n0_; clear n0_; (try clear hb); (try clear hb2); (try clear hk); (try clear hi)) | (go_at_call 14; (with_reducible refine (num_Gcd.calls (a0 / 4294967296) (a1 / 4294967296) t141 _ A5.out).mono ?_); rintro e w' ⟨rfl, ⟨nd, rfl⟩⟩; (try first | exact ⟨rfl, _, World.drewN_drewN _ _ _⟩ | exact ⟨rfl, _, Eq.trans (World.drewN_drewN _ _ _) (congrArg (World.drewN _) (Nat.add_assoc _ _ _))⟩)) | (go_at_call 15; (with_reducible refine (num_Lcm.calls k (a0 / 4294967296) (a1 / 4294967296) t142 t143 _ A6.out).mono ?_); rintro e w' ⟨rfl, ⟨nd, rfl⟩⟩; (try first | exact ⟨rfl, _, World.drewN_drewN _ _ _⟩ | exact ⟨rfl, _, Eq.trans (World.drewN_drewN _ _ _) (congrArg (World.drewN _) (Nat.add_assoc _ _ _))⟩)))
  repeat (go_quiet (first | (go_at_call 11; (with_reducible refine (cadencylaw01_awake.calls k  t140 _ A4.out).mono ?_); rintro e w8 ⟨rfl, hb⟩; have n0_ := Aside0.mk (below_step (by repeat (first | (with_reducible first | exact HB.out | apply below_alloc | apply pw_below_drewN | apply below_drew1) | exact HB.out)) hb); clear HB; have HB := n0_; clear n0_; (try clear hb); (try clear hb2); (try clear hk); (try clear hi)) | (go_at_call 14; (with_reducible refine (num_Gcd.calls (a0 / 4294967296) (a1 / 4294967296) t141 _ A5.out).mono ?_); rintro e w' ⟨rfl, ⟨nd, rfl⟩⟩; (try first | exact ⟨rfl, _, World.drewN_drewN _ _ _⟩ | exact ⟨rfl, _, Eq.trans (World.drewN_drewN _ _ _) (congrArg (World.drewN _) (Nat.add_assoc _ _ _))⟩)) | (go_at_call 15; (with_reducible refine (num_Lcm.calls k (a0 / 4294967296) (a1 / 4294967296) t142 t143 _ A6.out).mono ?_); rintro e w' ⟨rfl, ⟨nd, rfl⟩⟩; (try first | exact ⟨rfl, _, World.drewN_drewN _ _ _⟩ | exact ⟨rfl, _, Eq.trans (World.drewN_drewN _ _ _) (congrArg (World.drewN _) (Nat.add_assoc _ _ _))⟩))); go_upto_region 7 with (first | (go_at_call 11; (with_reducible refine (cadencylaw01_awake.calls k  t140 _ A4.out).mono ?_); rintro e w8 ⟨rfl, hb⟩; have n0_ := Aside0.mk (below_step (by repeat (first | (with_reducible first | exact HB.out | apply below_alloc | apply pw_below_drewN | apply below_drew1) | exact HB.out)) hb); clear HB; have HB := n0_; clear n0_; (try clear hb); (try clear hb2); (try clear hk); (try clear hi)) | (go_at_call 14; (with_reducible refine (num_Gcd.calls (a0 / 4294967296) (a1 / 4294967296) t141 _ A5.out).mono ?_); rintro e w' ⟨rfl, ⟨nd, rfl⟩⟩; (try first | exact ⟨rfl, _, World.drewN_drewN _ _ _⟩ | exact ⟨rfl, _, Eq.trans (World.drewN_drewN _ _ _) (congrArg (World.drewN _) (Nat.add_assoc _ _ _))⟩)) | (go_at_call 15; (with_reducible refine (num_Lcm.calls k (a0 / 4294967296) (a1 / 4294967296) t142 t143 _ A6.out).mono ?_); rintro e w' ⟨rfl, ⟨nd, rfl⟩⟩; (try first | exact ⟨rfl, _, World.drewN_drewN _ _ _⟩ | exact ⟨rfl, _, Eq.trans (World.drewN_drewN _ _ _) (congrArg (World.drewN _) (Nat.add_assoc _ _ _))⟩))))
  (try simp only [Act.put, List.setIfInBounds_toArray, List.set_cons_zero, List.set_cons_succ])
  go_cut [36] (fun v36 wc => ∃ (kq : Nat) (x36_6 : Bool), v36 = .bool x36_6 ∧ Aside0 (cadencylaw01_NumDivides.j0 kq t140 (a0 / 4294967296) (a1 / 4294967296) (IntKind.u64.wrap ((a2 / 281474976710656) + 1)) t141 t142 t143 x36_6 = some r) ∧ Aside0 (kq ≤ k) ∧ Aside0 (Below w.heap.size w wc))
  case first =>
    have H := HC7.out
    clear HC7
    by_cases c9 : (a0 / 4294967296) = 0
    · rw [if_pos c9] at H
      have c9b0 : ((a0 / 4294967296) == 0) = true := beq_iff_eq.mpr c9
      have c9b1 : ((a0 / 4294967296) != 0) = false := bne_eq_false_iff_eq.mpr c9
      clear c9
      (first | rw [c9b0] | (simp only [i64_w, i32_w]; rw [c9b0]) | skip)
      have H' := Aside0.mk H
      clear H
      go_wp2
      repeat (go_quiet (fail); try go_wp2)
      go_meet
      case rel => exact ⟨_, (true), (by first | rfl | (simp; done) | (simp [*]; done)), H', ⟨by first | omega | exact Nat.le_refl _⟩, ⟨by repeat (first | (with_reducible first | exact HB.out | apply below_alloc | apply pw_below_drewN | apply below_drew1) | exact HB.out)⟩⟩
    · rw [if_neg c9] at H
      have c9b0 : ((a0 / 4294967296) == 0) = false := beq_eq_false_iff_ne.mpr c9
      have c9b1 : ((a0 / 4294967296) != 0) = true := bne_iff_ne.mpr c9
      (first | rw [c9b0] | (simp only [i64_w, i32_w]; rw [c9b0]) | skip)
      have H' := Aside0.mk H
      clear H
      go_wp2
      repeat (go_quiet (fail); try go_wp2)
      go_meet
      case rel => exact ⟨_, (((a1 / 4294967296) == 0)), (by first | rfl | (simp; done) | (simp [*]; done)), H', ⟨by first | omega | exact Nat.le_refl _⟩, ⟨by repeat (first | (with_reducible first | exact HB.out | apply below_alloc | apply pw_below_drewN | apply below_drew1) | exact HB.out)⟩⟩
  case rest =>
    clear HC7
    try clear p2
    try clear c4
    try clear c9
    try clear c9b0
    try clear c9b1
    obtain ⟨kq, x36_6, rfl, HA, HJ6, HB⟩ := hcut
    cases kq with
    | zero => exact absurd HA.out (by simp [cadencylaw01_NumDivides.j0])
    | succ kj6 =>
      have H := HA.out
      clear HA
      simp only [cadencylaw01_NumDivides.j0] at H
      by_cases c10 : x36_6 = true
      · subst c10
        have H1 : (if t140 = true then (if t141 = (IntKind.u64.wrap ((a0 / 4294967296) + (a1 / 4294967296))) then (if t143 = true then (some false) else (some (t142 == 0))) else (some false)) else (some false)) = some r := by rw [if_pos rfl] at H; exact H
        clear H
        have H := H1
        clear H1
        by_cases c11 : t140 = true
        · subst c11
          have H1 : (if t141 = (IntKind.u64.wrap ((a0 / 4294967296) + (a1 / 4294967296))) then (if t143 = true then (some false) else (some (t142 == 0))) else (some false)) = some r := by rw [if_pos rfl] at H; exact H
          clear H
          have H := H1
          clear H1
          by_cases c12 : t141 = (IntKind.u64.wrap ((a0 / 4294967296) + (a1 / 4294967296)))
          · rw [if_pos c12] at H
            have c12b0 : (t141 == (IntKind.u64.wrap ((a0 / 4294967296) + (a1 / 4294967296)))) = true := beq_iff_eq.mpr c12
            have c12b1 : (t141 != (IntKind.u64.wrap ((a0 / 4294967296) + (a1 / 4294967296)))) = false := bne_eq_false_iff_eq.mpr c12
            clear c12
            by_cases c13 : t143 = true
            · subst c13
              have H1 : (some false) = some r := by rw [if_pos rfl] at H; exact H
              clear H
              have H := H1
              clear H1
              obtain rfl := Option.some.inj H
              go_wp2
              repeat (go_quiet (fail); try go_wp2)
              go_ret
              exact ⟨by first | rfl | (simp [errW_none, errW_some] <;> rfl) | (simp [*, errW_none, errW_some] <;> rfl), by repeat (first | (with_reducible first | exact HB.out | apply below_alloc | apply pw_below_drewN | apply below_drew1) | exact HB.out)⟩
            · replace c13 := Bool.eq_false_iff.mpr c13
              subst c13
              have H1 : (some (t142 == 0)) = some r := by rw [if_neg (show ¬ (false = true) by decide)] at H; exact H
              clear H
              have H := H1
              clear H1
              obtain rfl := Option.some.inj H
              go_wp2
              repeat (go_quiet (fail); try go_wp2)
              go_ret
              exact ⟨by first | rfl | (simp [errW_none, errW_some] <;> rfl) | (simp [*, errW_none, errW_some] <;> rfl), by repeat (first | (with_reducible first | exact HB.out | apply below_alloc | apply pw_below_drewN | apply below_drew1) | exact HB.out)⟩
          · rw [if_neg c12] at H
            have c12b0 : (t141 == (IntKind.u64.wrap ((a0 / 4294967296) + (a1 / 4294967296)))) = false := beq_eq_false_iff_ne.mpr c12
            have c12b1 : (t141 != (IntKind.u64.wrap ((a0 / 4294967296) + (a1 / 4294967296)))) = true := bne_iff_ne.mpr c12
            obtain rfl := Option.some.inj H
            go_wp2
            repeat (go_quiet (fail); try go_wp2)
            go_ret
            exact ⟨by first | rfl | (simp [errW_none, errW_some] <;> rfl) | (simp [*, errW_none, errW_some] <;> rfl), by repeat (first | (with_reducible first | exact HB.out | apply below_alloc | apply pw_below_drewN | apply below_drew1) | exact HB.out)⟩
        · replace c11 := Bool.eq_false_iff.mpr c11
          subst c11
          have H1 : (some false) = some r := by rw [if_neg (show ¬ (false = true) by decide)] at H; exact H
          clear H
          have H := H1
          clear H1
          obtain rfl := Option.some.inj H
          go_wp2
          repeat (go_quiet (fail); try go_wp2)
          go_ret
          exact ⟨by first | rfl | (simp [errW_none, errW_some] <;> rfl) | (simp [*, errW_none, errW_some] <;> rfl), by repeat (first | (with_reducible first | exact HB.out | apply below_alloc | apply pw_below_drewN | apply below_drew1) | exact HB.out)⟩
      · replace c10 := Bool.eq_false_iff.mpr c10
        subst c10
        have H1 : (if t141 = 0 then (some false) else (if (Int.tmod (a0 / 4294967296) t141) = 0 then (if (Int.tmod (a1 / 4294967296) t141) = 0 then (if t143 = true then (if (a0 / 4294967296) = 0 then (none) else (if (Int.tmod t142 (a0 / 4294967296)) = 0 then (if (a1 / 4294967296) = 0 then (none) else (if (Int.tmod t142 (a1 / 4294967296)) = 0 then (if (IntKind.u64.wrap ((IntKind.u64.wrap (Int.tdiv t142 (a0 / 4294967296))) * t141)) = (a1 / 4294967296) then (if t140 = true then (if (IntKind.u64.wrap ((a2 / 281474976710656) + 1)) = 0 then (none) else (if (Int.tmod (a0 / 4294967296) (IntKind.u64.wrap ((a2 / 281474976710656) + 1))) = 0 then (some (((Int.tmod (a1 / 4294967296) (IntKind.u64.wrap ((a2 / 281474976710656) + 1))) == 0) == ((Int.tmod t141 (IntKind.u64.wrap ((a2 / 281474976710656) + 1))) == 0))) else (some (false == ((Int.tmod t141 (IntKind.u64.wrap ((a2 / 281474976710656) + 1))) == 0))))) else (some false)) else (some false)) else (some false))) else (some false))) else (some false)) else (some false)) else (some false))) = some r := by rw [if_neg (show ¬ (false = true) by decide)] at H; exact H
        clear H
        have H := H1
        clear H1
        by_cases c14 : t141 = 0
        · rw [if_pos c14] at H
          have c14b0 : (t141 == 0) = true := beq_iff_eq.mpr c14
          have c14b1 : (t141 != 0) = false := bne_eq_false_iff_eq.mpr c14
          clear c14
          obtain rfl := Option.some.inj H
          go_wp2
          repeat (go_quiet (fail); try go_wp2)
          go_ret
          exact ⟨by first | rfl | (simp [errW_none, errW_some] <;> rfl) | (simp [*, errW_none, errW_some] <;> rfl), by repeat (first | (with_reducible first | exact HB.out | apply below_alloc | apply pw_below_drewN | apply below_drew1) | exact HB.out)⟩
        · rw [if_neg c14] at H
          have c14b0 : (t141 == 0) = false := beq_eq_false_iff_ne.mpr c14
          have c14b1 : (t141 != 0) = true := bne_iff_ne.mpr c14
          by_cases c15 : (Int.tmod (a0 / 4294967296) t141) = 0
          · rw [if_pos c15] at H
            have c15b0 : ((Int.tmod (a0 / 4294967296) t141) == 0) = true := beq_iff_eq.mpr c15
            have c15b1 : ((Int.tmod (a0 / 4294967296) t141) != 0) = false := bne_eq_false_iff_eq.mpr c15
            clear c15
            by_cases c16 : (Int.tmod (a1 / 4294967296) t141) = 0
            · rw [if_pos c16] at H
              have c16b0 : ((Int.tmod (a1 / 4294967296) t141) == 0) = true := beq_iff_eq.mpr c16
              have c16b1 : ((Int.tmod (a1 / 4294967296) t141) != 0) = false := bne_eq_false_iff_eq.mpr c16
              clear c16
              by_cases c17 : t143 = true
              · subst c17
                have H1 : (if (a0 / 4294967296) = 0 then (none) else (if (Int.tmod t142 (a0 / 4294967296)) = 0 then (if (a1 / 4294967296) = 0 then (none) else (if (Int.tmod t142 (a1 / 4294967296)) = 0 then (if (IntKind.u64.wrap ((IntKind.u64.wrap (Int.tdiv t142 (a0 / 4294967296))) * t141)) = (a1 / 4294967296) then (if t140 = true then (if (IntKind.u64.wrap ((a2 / 281474976710656) + 1)) = 0 then (none) else (if (Int.tmod (a0 / 4294967296) (IntKind.u64.wrap ((a2 / 281474976710656) + 1))) = 0 then (some (((Int.tmod (a1 / 4294967296) (IntKind.u64.wrap ((a2 / 281474976710656) + 1))) == 0) == ((Int.tmod t141 (IntKind.u64.wrap ((a2 / 281474976710656) + 1))) == 0))) else (some (false == ((Int.tmod t141 (IntKind.u64.wrap ((a2 / 281474976710656) + 1))) == 0))))) else (some false)) else (some false)) else (some false))) else (some false))) = some r := by rw [if_pos rfl] at H; exact H
                clear H
                have H := H1
                clear H1
                by_cases c18 : (a0 / 4294967296) = 0
                · rw [if_pos c18] at H
                  exact absurd H (by simp)
                · rw [if_neg c18] at H
                  have c18b0 : ((a0 / 4294967296) == 0) = false := beq_eq_false_iff_ne.mpr c18
                  have c18b1 : ((a0 / 4294967296) != 0) = true := bne_iff_ne.mpr c18
                  by_cases c19 : (Int.tmod t142 (a0 / 4294967296)) = 0
                  · rw [if_pos c19] at H
                    have c19b0 : ((Int.tmod t142 (a0 / 4294967296)) == 0) = true := beq_iff_eq.mpr c19
                    have c19b1 : ((Int.tmod t142 (a0 / 4294967296)) != 0) = false := bne_eq_false_iff_eq.mpr c19
                    clear c19
                    by_cases c20 : (a1 / 4294967296) = 0
                    · rw [if_pos c20] at H
                      exact absurd H (by simp)
                    · rw [if_neg c20] at H
                      have c20b0 : ((a1 / 4294967296) == 0) = false := beq_eq_false_iff_ne.mpr c20
                      have c20b1 : ((a1 / 4294967296) != 0) = true := bne_iff_ne.mpr c20
                      by_cases c21 : (Int.tmod t142 (a1 / 4294967296)) = 0
                      · rw [if_pos c21] at H
                        have c21b0 : ((Int.tmod t142 (a1 / 4294967296)) == 0) = true := beq_iff_eq.mpr c21
                        have c21b1 : ((Int.tmod t142 (a1 / 4294967296)) != 0) = false := bne_eq_false_iff_eq.mpr c21
                        clear c21
                        by_cases c22 : (IntKind.u64.wrap ((IntKind.u64.wrap (Int.tdiv t142 (a0 / 4294967296))) * t141)) = (a1 / 4294967296)
                        · rw [if_pos c22] at H
                          have c22b0 : ((IntKind.u64.wrap ((IntKind.u64.wrap (Int.tdiv t142 (a0 / 4294967296))) * t141)) == (a1 / 4294967296)) = true := beq_iff_eq.mpr c22
                          have c22b1 : ((IntKind.u64.wrap ((IntKind.u64.wrap (Int.tdiv t142 (a0 / 4294967296))) * t141)) != (a1 / 4294967296)) = false := bne_eq_false_iff_eq.mpr c22
                          clear c22
                          by_cases c23 : t140 = true
                          · subst c23
                            have H1 : (if (IntKind.u64.wrap ((a2 / 281474976710656) + 1)) = 0 then (none) else (if (Int.tmod (a0 / 4294967296) (IntKind.u64.wrap ((a2 / 281474976710656) + 1))) = 0 then (some (((Int.tmod (a1 / 4294967296) (IntKind.u64.wrap ((a2 / 281474976710656) + 1))) == 0) == ((Int.tmod t141 (IntKind.u64.wrap ((a2 / 281474976710656) + 1))) == 0))) else (some (false == ((Int.tmod t141 (IntKind.u64.wrap ((a2 / 281474976710656) + 1))) == 0))))) = some r := by rw [if_pos rfl] at H; exact H
                            clear H
                            have H := H1
                            clear H1
                            by_cases c24 : (IntKind.u64.wrap ((a2 / 281474976710656) + 1)) = 0
                            · rw [if_pos c24] at H
                              exact absurd H (by simp)
                            · rw [if_neg c24] at H
                              have c24b0 : ((IntKind.u64.wrap ((a2 / 281474976710656) + 1)) == 0) = false := beq_eq_false_iff_ne.mpr c24
                              have c24b1 : ((IntKind.u64.wrap ((a2 / 281474976710656) + 1)) != 0) = true := bne_iff_ne.mpr c24
                              by_cases c25 : (Int.tmod (a0 / 4294967296) (IntKind.u64.wrap ((a2 / 281474976710656) + 1))) = 0
                              · rw [if_pos c25] at H
                                have c25b0 : ((Int.tmod (a0 / 4294967296) (IntKind.u64.wrap ((a2 / 281474976710656) + 1))) == 0) = true := beq_iff_eq.mpr c25
                                have c25b1 : ((Int.tmod (a0 / 4294967296) (IntKind.u64.wrap ((a2 / 281474976710656) + 1))) != 0) = false := bne_eq_false_iff_eq.mpr c25
                                clear c25
                                obtain rfl := Option.some.inj H
                                go_wp2
                                repeat (go_quiet (fail); try go_wp2)
                                go_ret
                                exact ⟨by first | rfl | (simp [errW_none, errW_some] <;> rfl) | (simp [*, errW_none, errW_some] <;> rfl), by repeat (first | (with_reducible first | exact HB.out | apply below_alloc | apply pw_below_drewN | apply below_drew1) | exact HB.out)⟩
                              · rw [if_neg c25] at H
                                have c25b0 : ((Int.tmod (a0 / 4294967296) (IntKind.u64.wrap ((a2 / 281474976710656) + 1))) == 0) = false := beq_eq_false_iff_ne.mpr c25
                                have c25b1 : ((Int.tmod (a0 / 4294967296) (IntKind.u64.wrap ((a2 / 281474976710656) + 1))) != 0) = true := bne_iff_ne.mpr c25
                                obtain rfl := Option.some.inj H
                                go_wp2
                                repeat (go_quiet (fail); try go_wp2)
                                go_ret
                                exact ⟨by first | rfl | (simp [errW_none, errW_some] <;> rfl) | (simp [*, errW_none, errW_some] <;> rfl), by repeat (first | (with_reducible first | exact HB.out | apply below_alloc | apply pw_below_drewN | apply below_drew1) | exact HB.out)⟩
                          · replace c23 := Bool.eq_false_iff.mpr c23
                            subst c23
                            have H1 : (some false) = some r := by rw [if_neg (show ¬ (false = true) by decide)] at H; exact H
                            clear H
                            have H := H1
                            clear H1
                            obtain rfl := Option.some.inj H
                            go_wp2
                            repeat (go_quiet (fail); try go_wp2)
                            go_ret
                            exact ⟨by first | rfl | (simp [errW_none, errW_some] <;> rfl) | (simp [*, errW_none, errW_some] <;> rfl), by repeat (first | (with_reducible first | exact HB.out | apply below_alloc | apply pw_below_drewN | apply below_drew1) | exact HB.out)⟩
                        · rw [if_neg c22] at H
                          have c22b0 : ((IntKind.u64.wrap ((IntKind.u64.wrap (Int.tdiv t142 (a0 / 4294967296))) * t141)) == (a1 / 4294967296)) = false := beq_eq_false_iff_ne.mpr c22
                          have c22b1 : ((IntKind.u64.wrap ((IntKind.u64.wrap (Int.tdiv t142 (a0 / 4294967296))) * t141)) != (a1 / 4294967296)) = true := bne_iff_ne.mpr c22
                          obtain rfl := Option.some.inj H
                          go_wp2
                          repeat (go_quiet (fail); try go_wp2)
                          go_ret
                          exact ⟨by first | rfl | (simp [errW_none, errW_some] <;> rfl) | (simp [*, errW_none, errW_some] <;> rfl), by repeat (first | (with_reducible first | exact HB.out | apply below_alloc | apply pw_below_drewN | apply below_drew1) | exact HB.out)⟩
                      · rw [if_neg c21] at H
                        have c21b0 : ((Int.tmod t142 (a1 / 4294967296)) == 0) = false := beq_eq_false_iff_ne.mpr c21
                        have c21b1 : ((Int.tmod t142 (a1 / 4294967296)) != 0) = true := bne_iff_ne.mpr c21
                        obtain rfl := Option.some.inj H
                        go_wp2
                        repeat (go_quiet (fail); try go_wp2)
                        go_ret
                        exact ⟨by first | rfl | (simp [errW_none, errW_some] <;> rfl) | (simp [*, errW_none, errW_some] <;> rfl), by repeat (first | (with_reducible first | exact HB.out | apply below_alloc | apply pw_below_drewN | apply below_drew1) | exact HB.out)⟩
                  · rw [if_neg c19] at H
                    have c19b0 : ((Int.tmod t142 (a0 / 4294967296)) == 0) = false := beq_eq_false_iff_ne.mpr c19
                    have c19b1 : ((Int.tmod t142 (a0 / 4294967296)) != 0) = true := bne_iff_ne.mpr c19
                    obtain rfl := Option.some.inj H
                    go_wp2
                    repeat (go_quiet (fail); try go_wp2)
                    go_ret
                    exact ⟨by first | rfl | (simp [errW_none, errW_some] <;> rfl) | (simp [*, errW_none, errW_some] <;> rfl), by repeat (first | (with_reducible first | exact HB.out | apply below_alloc | apply pw_below_drewN | apply below_drew1) | exact HB.out)⟩
              · replace c17 := Bool.eq_false_iff.mpr c17
                subst c17
                have H1 : (some false) = some r := by rw [if_neg (show ¬ (false = true) by decide)] at H; exact H
                clear H
                have H := H1
                clear H1
                obtain rfl := Option.some.inj H
                go_wp2
                repeat (go_quiet (fail); try go_wp2)
                go_ret
                exact ⟨by first | rfl | (simp [errW_none, errW_some] <;> rfl) | (simp [*, errW_none, errW_some] <;> rfl), by repeat (first | (with_reducible first | exact HB.out | apply below_alloc | apply pw_below_drewN | apply below_drew1) | exact HB.out)⟩
            · rw [if_neg c16] at H
              have c16b0 : ((Int.tmod (a1 / 4294967296) t141) == 0) = false := beq_eq_false_iff_ne.mpr c16
              have c16b1 : ((Int.tmod (a1 / 4294967296) t141) != 0) = true := bne_iff_ne.mpr c16
              obtain rfl := Option.some.inj H
              go_wp2
              repeat (go_quiet (fail); try go_wp2)
              go_ret
              exact ⟨by first | rfl | (simp [errW_none, errW_some] <;> rfl) | (simp [*, errW_none, errW_some] <;> rfl), by repeat (first | (with_reducible first | exact HB.out | apply below_alloc | apply pw_below_drewN | apply below_drew1) | exact HB.out)⟩
          · rw [if_neg c15] at H
            have c15b0 : ((Int.tmod (a0 / 4294967296) t141) == 0) = false := beq_eq_false_iff_ne.mpr c15
            have c15b1 : ((Int.tmod (a0 / 4294967296) t141) != 0) = true := bne_iff_ne.mpr c15
            obtain rfl := Option.some.inj H
            go_wp2
            repeat (go_quiet (fail); try go_wp2)
            go_ret
            exact ⟨by first | rfl | (simp [errW_none, errW_some] <;> rfl) | (simp [*, errW_none, errW_some] <;> rfl), by repeat (first | (with_reducible first | exact HB.out | apply below_alloc | apply pw_below_drewN | apply below_drew1) | exact HB.out)⟩

/-- THE ONE PURE STATEMENT of cadencylaw01_NumDivides: yours. -/
def cadencylaw01_NumDivides.Pure : Prop := ∀ (a0 : Int) (a1 : Int) (a2 : Int), (Lit.int .u64 a0).wf = true → (Lit.int .u64 a1).wf = true → (Lit.int .u64 a2).wf = true → ∃ k, cadencylaw01_NumDivides.f k a0 a1 a2 = some true
theorem cadencylaw01_NumDivides.walk (P : cadencylaw01_NumDivides.Pure) (a0 : Int) (a1 : Int) (a2 : Int) (w : World) (w0 : (Lit.int .u64 a0).wf = true) (w1 : (Lit.int .u64 a1).wf = true) (w2 : (Lit.int .u64 a2).wf = true) :
    Calls Try.prog 4 #[.int .u64 a0, .int .u64 a1, .int .u64 a2] w fun e w' => e = .returned (.bool true) ∧ Below w.heap.size w w' := by
  obtain ⟨k, h⟩ := P a0 a1 a2 w0 w1 w2
  refine (cadencylaw01_NumDivides.calls k a0 a1 a2 true w h).mono ?_
  rintro e w' ⟨rfl, hd⟩
  exact ⟨rfl, hd⟩

end Go.Proofs.Ythhojifpogghlaa.PAll
