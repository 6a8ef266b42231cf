-- Laid by wip/printx.py, over the print of the kit.
import Derived.Test.YthhojifpogghlaaPAllx0
import Derived.Test.YthhojifpogghlaaPAllx2
import Derived.Test.YthhojifpogghlaaPAllx9
import Derived.Test.YthhojifpogghlaaPAllx11
namespace Go.Proofs.Ythhojifpogghlaa.PAll
open Go.RowKit Go.Proofs.YthhojifpogghlaaW.PrintWords Go.Proofs.YthhojifpogghlaaW.PrintLast Go.Proofs.YthhojifpogghlaaW.PrintMore
attribute [local go_sem] max2_int min2_int max_two min_two max_three min_three max_four min_four   -- for this text's walks alone
set_option linter.unusedVariables false
set_option linter.unusedSimpArgs false

/-! ### cadencylaw01_NumShifts: function 3 -/
def cadencylaw01_NumShifts.j0 : Nat → Int → Bool → Int → Int → Bool → Bool → Option (Bool)
  | 0, _, _, _, _, _, _ => none
  | k + 1, x0, x5, x6, x9, x10, x57 => if x57 = true then (some false) else (if x6 ≥ 0 then (if x10 = true then ((num_Shift.f x9 (wrap64 (-x6))).bind fun bt138 => (if x5 = true then (if bt138.2 = true then (some (bt138.1 == x0)) else (some false)) else (some false))) else (some x5)) else (some x5))
def cadencylaw01_NumShifts.f (k : Nat) (a0 : Int) (a1 : Int) : Option (Bool) := (cadencylaw01_awake.f k).bind fun t127 => ((num_Shift.f a0 a1).bind fun bt128 => ((num_Shift.f a0 (Int.tmod a1 71)).bind fun bt130 => ((cadencyref01_Shift.f k a0 a1).bind fun bt132 => ((cadencyref01_Shift.f k a0 (Int.tmod a1 71)).bind fun bt135 => (if bt128.1 = bt132.1 then (if (bt128.2 != bt132.2) = true then (cadencylaw01_NumShifts.j0 k a0 t127 (Int.tmod a1 71) bt130.1 bt130.2 true) else (if bt130.1 = bt135.1 then (cadencylaw01_NumShifts.j0 k a0 t127 (Int.tmod a1 71) bt130.1 bt130.2 (bt130.2 != bt135.2)) else (cadencylaw01_NumShifts.j0 k a0 t127 (Int.tmod a1 71) bt130.1 bt130.2 true))) else (cadencylaw01_NumShifts.j0 k a0 t127 (Int.tmod a1 71) bt130.1 bt130.2 true))))))
theorem cadencylaw01_NumShifts.mono_l : ∀ k, (∀ y0 y1 y2 y3 y4 y5, LeO (cadencylaw01_NumShifts.j0 k y0 y1 y2 y3 y4 y5) (cadencylaw01_NumShifts.j0 (k + 1) y0 y1 y2 y3 y4 y5))
  | 0 => fun _ _ _ _ _ _ r h => by simp [cadencylaw01_NumShifts.j0] at h
  | k + 1 => by
    have ih0 := cadencylaw01_NumShifts.mono_l k
    · intro y0 y1 y2 y3 y4 y5
      unfold cadencylaw01_NumShifts.j0
      repeat' first
      | (with_reducible exact ih0 _ _ _ _ _ _)
      | (with_reducible exact cadencylaw01_awake.mono _)
      | (with_reducible exact cadencyref01_Shift.mono _ _ _)
      | (with_reducible exact LeO.refl _)
      | (with_reducible exact LeO.none _)
      | (with_reducible refine LeO.ite ?_ ?_)
      | (with_reducible refine LeO.bind ?_ (fun _ => ?_))
      | exact ih0 _ _ _ _ _ _
      | exact cadencylaw01_awake.mono _
      | exact cadencyref01_Shift.mono _ _ _
      | exact LeO.none _
      | refine LeO.ite ?_ ?_
      | refine LeO.bind ?_ (fun _ => ?_)
theorem cadencylaw01_NumShifts.mono : ∀ a0 a1 k, LeO (cadencylaw01_NumShifts.f k a0 a1) (cadencylaw01_NumShifts.f (k + 1) a0 a1) := by
  intro a0 a1 k
  have ih0 := cadencylaw01_NumShifts.mono_l k
  unfold cadencylaw01_NumShifts.f
  repeat' first
      | (with_reducible exact ih0 _ _ _ _ _ _)
      | (with_reducible exact cadencylaw01_awake.mono _)
      | (with_reducible exact cadencyref01_Shift.mono _ _ _)
      | (with_reducible exact LeO.refl _)
      | (with_reducible exact LeO.none _)
      | (with_reducible refine LeO.ite ?_ ?_)
      | (with_reducible refine LeO.bind ?_ (fun _ => ?_))
      | exact ih0 _ _ _ _ _ _
      | exact cadencylaw01_awake.mono _
      | exact cadencyref01_Shift.mono _ _ _
      | exact LeO.none _
      | refine LeO.ite ?_ ?_
      | refine LeO.bind ?_ (fun _ => ?_)
set_option maxHeartbeats 8000000 in
set_option maxRecDepth 100000 in
theorem cadencylaw01_NumShifts.calls (k : Nat) (a0 : Int) (a1 : Int) (r : Bool) (w : World) (h : cadencylaw01_NumShifts.f k a0 a1 = some r) :
    Calls Try.prog 3 #[.int .u64 a0, .int .i64 a1] w fun e w' => e = .returned (.bool r) ∧ Below w.heap.size w w' := by
  have hu27 := Try.underlying27
  have HB := Aside0.mk (Below.refl w.heap.size w)
  have H : ((cadencylaw01_awake.f k).bind fun t127 => ((num_Shift.f a0 a1).bind fun bt128 => ((num_Shift.f a0 (Int.tmod a1 71)).bind fun bt130 => ((cadencyref01_Shift.f k a0 a1).bind fun bt132 => ((cadencyref01_Shift.f k a0 (Int.tmod a1 71)).bind fun bt135 => (if bt128.1 = bt132.1 then (if (bt128.2 != bt132.2) = true then (cadencylaw01_NumShifts.j0 k a0 t127 (Int.tmod a1 71) bt130.1 bt130.2 true) else (if bt130.1 = bt135.1 then (cadencylaw01_NumShifts.j0 k a0 t127 (Int.tmod a1 71) bt130.1 bt130.2 (bt130.2 != bt135.2)) else (cadencylaw01_NumShifts.j0 k a0 t127 (Int.tmod a1 71) bt130.1 bt130.2 true))) else (cadencylaw01_NumShifts.j0 k a0 t127 (Int.tmod a1 71) bt130.1 bt130.2 true))))))) = some r := h
  clear h
  replace H := Option.bind_eq_some_iff.mp H
  obtain ⟨t127, A30, H⟩ := H
  replace H : ((num_Shift.f a0 a1).bind fun bt128 => ((num_Shift.f a0 (Int.tmod a1 71)).bind fun bt130 => ((cadencyref01_Shift.f k a0 a1).bind fun bt132 => ((cadencyref01_Shift.f k a0 (Int.tmod a1 71)).bind fun bt135 => (if bt128.1 = bt132.1 then (if (bt128.2 != bt132.2) = true then (cadencylaw01_NumShifts.j0 k a0 t127 (Int.tmod a1 71) bt130.1 bt130.2 true) else (if bt130.1 = bt135.1 then (cadencylaw01_NumShifts.j0 k a0 t127 (Int.tmod a1 71) bt130.1 bt130.2 (bt130.2 != bt135.2)) else (cadencylaw01_NumShifts.j0 k a0 t127 (Int.tmod a1 71) bt130.1 bt130.2 true))) else (cadencylaw01_NumShifts.j0 k a0 t127 (Int.tmod a1 71) bt130.1 bt130.2 true)))))) = some r := H
  have A3 := Aside0.mk A30
  clear A30
  replace H := Option.bind_eq_some_iff.mp H
  obtain ⟨⟨t128, t129⟩, A40, H⟩ := H
  replace H : ((num_Shift.f a0 (Int.tmod a1 71)).bind fun bt130 => ((cadencyref01_Shift.f k a0 a1).bind fun bt132 => ((cadencyref01_Shift.f k a0 (Int.tmod a1 71)).bind fun bt135 => (if t128 = bt132.1 then (if (t129 != bt132.2) = true then (cadencylaw01_NumShifts.j0 k a0 t127 (Int.tmod a1 71) bt130.1 bt130.2 true) else (if bt130.1 = bt135.1 then (cadencylaw01_NumShifts.j0 k a0 t127 (Int.tmod a1 71) bt130.1 bt130.2 (bt130.2 != bt135.2)) else (cadencylaw01_NumShifts.j0 k a0 t127 (Int.tmod a1 71) bt130.1 bt130.2 true))) else (cadencylaw01_NumShifts.j0 k a0 t127 (Int.tmod a1 71) bt130.1 bt130.2 true))))) = some r := H
  have A4 := Aside0.mk A40
  clear A40
  replace H := Option.bind_eq_some_iff.mp H
  obtain ⟨⟨t130, t131⟩, A50, H⟩ := H
  replace H : ((cadencyref01_Shift.f k a0 a1).bind fun bt132 => ((cadencyref01_Shift.f k a0 (Int.tmod a1 71)).bind fun bt135 => (if t128 = bt132.1 then (if (t129 != bt132.2) = true then (cadencylaw01_NumShifts.j0 k a0 t127 (Int.tmod a1 71) t130 t131 true) else (if t130 = bt135.1 then (cadencylaw01_NumShifts.j0 k a0 t127 (Int.tmod a1 71) t130 t131 (t131 != bt135.2)) else (cadencylaw01_NumShifts.j0 k a0 t127 (Int.tmod a1 71) t130 t131 true))) else (cadencylaw01_NumShifts.j0 k a0 t127 (Int.tmod a1 71) t130 t131 true)))) = some r := H
  have A5 := Aside0.mk A50
  clear A50
  replace H := Option.bind_eq_some_iff.mp H
  obtain ⟨⟨t132, t133⟩, A60, H⟩ := H
  replace H : ((cadencyref01_Shift.f k a0 (Int.tmod a1 71)).bind fun bt135 => (if t128 = t132 then (if (t129 != t133) = true then (cadencylaw01_NumShifts.j0 k a0 t127 (Int.tmod a1 71) t130 t131 true) else (if t130 = bt135.1 then (cadencylaw01_NumShifts.j0 k a0 t127 (Int.tmod a1 71) t130 t131 (t131 != bt135.2)) else (cadencylaw01_NumShifts.j0 k a0 t127 (Int.tmod a1 71) t130 t131 true))) else (cadencylaw01_NumShifts.j0 k a0 t127 (Int.tmod a1 71) t130 t131 true))) = some r := H
  have A6 := Aside0.mk A60
  clear A60
  replace H := Option.bind_eq_some_iff.mp H
  obtain ⟨⟨t135, t136⟩, A70, H⟩ := H
  replace H : (if t128 = t132 then (if (t129 != t133) = true then (cadencylaw01_NumShifts.j0 k a0 t127 (Int.tmod a1 71) t130 t131 true) else (if t130 = t135 then (cadencylaw01_NumShifts.j0 k a0 t127 (Int.tmod a1 71) t130 t131 (t131 != t136)) else (cadencylaw01_NumShifts.j0 k a0 t127 (Int.tmod a1 71) t130 t131 true))) else (cadencylaw01_NumShifts.j0 k a0 t127 (Int.tmod a1 71) t130 t131 true)) = some r := H
  have A7 := Aside0.mk A70
  clear A70
  have HC8 := Aside0.mk H
  clear H
  go_enter Try.func3, Try.ntmps3
  go_upto_region 7 with (first | ((with_reducible refine gate_callee (f := 11) rfl ?_); refine goesL_ (some 15) rfl rfl Try.func11 (by kernel_rfl) rfl #[] rfl (by (try simp only [List.map_toArray, List.map_cons, List.map_nil]); first | done | rfl | (simp only [List.length_drop, List.length_take]; rfl)) ?_; (with_reducible refine (cadencylaw01_awake.calls k  t127 _ A3.out).mono ?_); rintro e w9 ⟨rfl, hb⟩; refine ⟨_, rfl, ?_⟩; have n0_ := Aside0.mk (below_step (by repeat (first | (with_reducible first | exact HB.out | apply below_alloc | apply pw_below_drewN | apply below_drew1) | exact HB.out)) hb); clear HB; have HB := n0_; clear n0_; (try clear hb); (try clear hb2); (try clear hk); (try clear hi)) | ((with_reducible refine gate_callee (f := 12) rfl ?_); refine goesL_ (some 21) rfl rfl Try.func12 (by kernel_rfl) rfl #[.int .u64 a0, .int .i64 a1] rfl (by (try simp only [List.map_toArray, List.map_cons, List.map_nil]); first | done | rfl | (simp only [List.length_drop, List.length_take]; rfl)) ?_; (with_reducible refine (num_Shift.calls a0 a1 t128 t129 _ A4.out).mono ?_); rintro e w' ⟨rfl, ⟨nd, rfl⟩⟩; refine ⟨_, rfl, ?_⟩; (try (rw [drewN_self w9]; generalize hq_ : World.drewN w9 _ = w9; have n0_ : Aside0 (Below w.heap.size w w9) := ⟨by rw [← hq_]; exact (by repeat (first | (with_reducible first | exact HB.out | apply below_alloc | apply pw_below_drewN | apply below_drew1) | exact HB.out))⟩; clear HB hq_; have HB := n0_; clear n0_))) | ((with_reducible refine gate_callee (f := 12) rfl ?_); refine goesL_ (some 27) rfl rfl Try.func12 (by kernel_rfl) rfl #[.int .u64 a0, .int .i64 (Int.tmod a1 71)] rfl (by (try simp only [List.map_toArray, List.map_cons, List.map_nil]); first | done | rfl | (simp only [List.length_drop, List.length_take]; rfl)) ?_; (with_reducible refine (num_Shift.calls a0 (Int.tmod a1 71) t130 t131 _ A5.out).mono ?_); rintro e w' ⟨rfl, ⟨nd, rfl⟩⟩; refine ⟨_, rfl, ?_⟩; (try (rw [drewN_self w9]; generalize hq_ : World.drewN w9 _ = w9; have n0_ : Aside0 (Below w.heap.size w w9) := ⟨by rw [← hq_]; exact (by repeat (first | (with_reducible first | exact HB.out | apply below_alloc | apply pw_below_drewN | apply below_drew1) | exact HB.out))⟩; clear HB hq_; have HB := n0_; clear n0_))) | ((with_reducible refine gate_callee (f := 13) rfl ?_); refine goesL_ (some 32) rfl rfl Try.func13 (by kernel_rfl) rfl #[.int .u64 a0, .int .i64 a1] rfl (by (try simp only [List.map_toArray, List.map_cons, List.map_nil]); first | done | rfl | (simp only [List.length_drop, List.length_take]; rfl)) ?_; (with_reducible refine (cadencyref01_Shift.calls k a0 a1 t132 t133 _ A6.out).mono ?_); rintro e w10 ⟨rfl, hb⟩; refine ⟨_, rfl, ?_⟩; have n0_ := Aside0.mk (below_step (by repeat (first | (with_reducible first | exact HB.out | apply below_alloc | apply pw_below_drewN | apply below_drew1) | exact HB.out)) hb); clear HB; have HB := n0_; clear n0_; (try clear hb); (try clear hb2); (try clear hk); (try clear hi)) | ((with_reducible refine gate_dst (N := 11) rfl ?_); refine box_event ?hg (N := 11) ?hd (cs := #[.int .u64 0, .bool false]) (t := 27) ?hr ?_; (case hd => rfl); (case hg => rfl); (case hr => first | (go_simp; done) | (go_simp; rfl)); intro gb134 hg w11 hbox hb; have n0_ := Aside0.mk (below_step (by repeat (first | (with_reducible first | exact HB.out | apply below_alloc | apply pw_below_drewN | apply below_drew1) | exact HB.out)) hb); have n1_ := Aside0.mk (hbox); have n2_ := Aside0.mk ((by rw [hg]; exact (below_size (by repeat (first | (with_reducible first | exact HB.out | apply below_alloc | apply pw_below_drewN | apply below_drew1) | exact HB.out))) : w.heap.size ≤ gb134)); have n3_ := Aside0.mk ((by rw [hg]; exact (below_size (by repeat (first | (with_reducible first | exact HB.out | apply below_alloc | apply pw_below_drewN | apply below_drew1) | exact HB.out))) : w.heap.size ≤ gb134)); clear HB; have HB := n0_; have BK134 := n1_; have GW134 := n2_; have GE134 := n3_; clear n0_ n1_ n2_ n3_; clear hb hbox hg; have hcz12_0 : w11.cell? ⟨gb134, 0, none⟩ = some (.int .u64 0) := (blk_cell BK134.out 0).trans rfl; have hcz12_1 : w11.cell? ⟨gb134, 1, none⟩ = some (.bool false) := (blk_cell BK134.out 1).trans rfl; have hfz12_0 := blk_frozen BK134.out 0; have hfz12_1 := blk_frozen BK134.out 1) | ((with_reducible refine gate_callee (f := 13) rfl ?_); refine goesL_ (some 35) rfl rfl Try.func13 (by kernel_rfl) rfl #[.int .u64 a0, .int .i64 (Int.tmod a1 71)] rfl (by (try simp only [List.map_toArray, List.map_cons, List.map_nil]); first | done | rfl | (simp only [List.length_drop, List.length_take]; rfl)) ?_; (with_reducible refine (cadencyref01_Shift.calls k a0 (Int.tmod a1 71) t135 t136 _ A7.out).mono ?_); rintro e w13 ⟨rfl, hb⟩; refine ⟨_, rfl, ?_⟩; have n0_ := Aside0.mk (blk_below (g := gb134) (o := .cells #[.int .u64 t132, .bool t133] 27 (0, 0)) (by (with_reducible repeat (first | refine blk_drewN ?_ _ | refine blk_drew ?_ | refine blk_alloc ?_ _)); refine blk_put (cs := #[.int .u64 t132, .bool false]) ?_ 1 _ rfl; (with_reducible repeat (first | refine blk_drewN ?_ _ | refine blk_drew ?_ | refine blk_alloc ?_ _)); refine blk_put (cs := #[.int .u64 0, .bool false]) ?_ 0 _ rfl; (with_reducible repeat (first | refine blk_drewN ?_ _ | refine blk_drew ?_ | refine blk_alloc ?_ _)); exact BK134.out) hb); have n1_ := Aside0.mk (below_step (by repeat (first | (with_reducible first | exact HB.out | apply below_alloc | apply pw_below_drewN | apply below_drew1 | refine below_set ?_ GE134.out) | exact HB.out)) hb); clear BK134; clear HB; have BK134 := n0_; have HB := n1_; clear n0_ n1_; (try clear hb); (try clear hb2); (try clear hk); (try clear hi)) | ((with_reducible refine gate_dst (N := 12) rfl ?_); refine box_event ?hg (N := 12) ?hd (cs := #[.int .u64 0, .bool false]) (t := 27) ?hr ?_; (case hd => rfl); (case hg => rfl); (case hr => first | (go_simp; done) | (go_simp; rfl)); intro gb137 hg w14 hbox hb; have n0_ := Aside0.mk (blk_below (g := gb134) (o := .cells #[.int .u64 t132, .bool t133] 27 (0, 0)) (by (with_reducible repeat (first | refine blk_drewN ?_ _ | refine blk_drew ?_ | refine blk_alloc ?_ _)); exact BK134.out) hb); have n1_ := Aside0.mk (below_step (by repeat (first | (with_reducible first | exact HB.out | apply below_alloc | apply pw_below_drewN | apply below_drew1 | refine below_set ?_ GE134.out) | exact HB.out)) hb); have n2_ := Aside0.mk (hbox); have n3_ := Aside0.mk ((by rw [hg]; exact (below_size (by repeat (first | (with_reducible first | exact HB.out | apply below_alloc | apply pw_below_drewN | apply below_drew1 | refine below_set ?_ GE134.out) | exact HB.out))) : w.heap.size ≤ gb137)); have n4_ := Aside0.mk ((by rw [hg]; exact (below_size (by repeat (first | (with_reducible first | exact HB.out | apply below_alloc | apply pw_below_drewN | apply below_drew1 | refine below_set ?_ GE134.out) | exact HB.out))) : w.heap.size ≤ gb137)); have n5_ := Aside0.mk ((by rw [hg]; exact Nat.ne_of_lt (blk_lt (g := gb134) (o := .cells #[.int .u64 t132, .bool t133] 27 (0, 0)) (by (with_reducible repeat (first | refine blk_drewN ?_ _ | refine blk_drew ?_ | refine blk_alloc ?_ _)); exact BK134.out)) : gb134 ≠ gb137)); have n6_ := Aside0.mk ((by rw [hg]; exact Nat.ne_of_gt (blk_lt (g := gb134) (o := .cells #[.int .u64 t132, .bool t133] 27 (0, 0)) (by (with_reducible repeat (first | refine blk_drewN ?_ _ | refine blk_drew ?_ | refine blk_alloc ?_ _)); exact BK134.out)) : gb137 ≠ gb134)); clear BK134; clear HB; have BK134 := n0_; have HB := n1_; have BK137 := n2_; have GW137 := n3_; have GE137 := n4_; have NB134_137 := n5_; have NB137_134 := n6_; clear n0_ n1_ n2_ n3_ n4_ n5_ n6_; clear hb hbox hg; have hnb15 := NB137_134.out; have hnc15 := NB134_137.out; have hcz16_0 : w14.cell? ⟨gb137, 0, none⟩ = some (.int .u64 0) := (blk_cell BK137.out 0).trans rfl; have hcz16_1 : w14.cell? ⟨gb137, 1, none⟩ = some (.bool false) := (blk_cell BK137.out 1).trans rfl; have hfz16_0 := blk_frozen BK137.out 0; have hfz16_1 := blk_frozen BK137.out 1))
  (try simp only [Act.put, List.setIfInBounds_toArray, List.set_cons_zero, List.set_cons_succ])
  go_cut [57] (fun v57 wc => ∃ (kq : Nat) (x57_7 : Bool), v57 = .bool x57_7 ∧ Aside0 (cadencylaw01_NumShifts.j0 kq a0 t127 (Int.tmod a1 71) t130 t131 x57_7 = some r) ∧ Aside0 (kq ≤ k) ∧ Aside0 (wc.heap[gb134]? = some (.cells #[.int .u64 t132, .bool t133] 27 (0, 0))) ∧ Aside0 (wc.heap[gb137]? = some (.cells #[.int .u64 t135, .bool t136] 27 (0, 0))) ∧ Aside0 (Below w.heap.size w wc))
  case first =>
    have H := HC8.out
    clear HC8
    by_cases c17 : t128 = t132
    · rw [if_pos c17] at H
      have c17b0 : (t128 == t132) = true := beq_iff_eq.mpr c17
      have c17b1 : (t128 != t132) = false := bne_eq_false_iff_eq.mpr c17
      clear c17
      (first | rw [c17b0] | (simp only [i64_w, i32_w]; rw [c17b0]) | skip)
      by_cases c18 : (t129 != t133) = true
      · rw [if_pos c18] at H
        have c18b0 : (t129 != t133) = true := c18
        (try (have c18b1 : decide (t129 = t133) = false := by simpa using c18))
        (try (have c18b2 : (t129 == t133) = false := by simpa using c18))
        (try (have c18b3 : ¬ (t129 = t133) := by simpa using c18))
        clear c18
        have H' := Aside0.mk H
        clear H
        have hnb19 := NB134_137.out
        have hnc19 := NB137_134.out
        have hcz20_0 : w14.cell? ⟨gb134, 0, none⟩ = some (.int .u64 t132) := (blk_cell BK134.out 0).trans rfl
        have hcz20_1 : w14.cell? ⟨gb134, 1, none⟩ = some (.bool t133) := (blk_cell BK134.out 1).trans rfl
        have hfz20_0 := blk_frozen BK134.out 0
        have hfz20_1 := blk_frozen BK134.out 1
        go_wp2
        go_meet
        case rel => exact ⟨_, (true), (by first | rfl | (simp; done) | (simp [*]; done)), H', ⟨by first | omega | exact Nat.le_refl _⟩, ⟨by (with_reducible repeat (first | refine blk_drewN ?_ _ | refine blk_drew ?_ | refine blk_alloc ?_ _)); refine blk_far ?_ NB134_137.out _; (with_reducible repeat (first | refine blk_drewN ?_ _ | refine blk_drew ?_ | refine blk_alloc ?_ _)); refine blk_far ?_ NB134_137.out _; (with_reducible repeat (first | refine blk_drewN ?_ _ | refine blk_drew ?_ | refine blk_alloc ?_ _)); exact BK134.out⟩, ⟨by (with_reducible repeat (first | refine blk_drewN ?_ _ | refine blk_drew ?_ | refine blk_alloc ?_ _)); refine blk_put (cs := #[.int .u64 t135, .bool false]) ?_ 1 _ rfl; (with_reducible repeat (first | refine blk_drewN ?_ _ | refine blk_drew ?_ | refine blk_alloc ?_ _)); refine blk_put (cs := #[.int .u64 0, .bool false]) ?_ 0 _ rfl; (with_reducible repeat (first | refine blk_drewN ?_ _ | refine blk_drew ?_ | refine blk_alloc ?_ _)); exact BK137.out⟩, ⟨by repeat (first | (with_reducible first | exact HB.out | apply below_alloc | apply pw_below_drewN | apply below_drew1 | refine below_set ?_ GE134.out | refine below_set ?_ GE137.out) | exact HB.out)⟩⟩
      · rw [if_neg c18] at H
        have c18b0 : (t129 != t133) = false := by simpa using c18
        (try (have c18b1 : decide (t129 = t133) = true := by simpa using c18))
        (try (have c18b2 : (t129 == t133) = true := by simpa using c18))
        clear c18
        by_cases c21 : t130 = t135
        · rw [if_pos c21] at H
          have c21b0 : (t130 == t135) = true := beq_iff_eq.mpr c21
          have c21b1 : (t130 != t135) = false := bne_eq_false_iff_eq.mpr c21
          clear c21
          have H' := Aside0.mk H
          clear H
          have hnb22 := NB134_137.out
          have hnc22 := NB137_134.out
          have hcz23_0 : w14.cell? ⟨gb134, 0, none⟩ = some (.int .u64 t132) := (blk_cell BK134.out 0).trans rfl
          have hcz23_1 : w14.cell? ⟨gb134, 1, none⟩ = some (.bool t133) := (blk_cell BK134.out 1).trans rfl
          have hfz23_0 := blk_frozen BK134.out 0
          have hfz23_1 := blk_frozen BK134.out 1
          have hcz24_0 : w14.cell? ⟨gb137, 0, none⟩ = some (.int .u64 0) := (blk_cell BK137.out 0).trans rfl
          have hcz24_1 : w14.cell? ⟨gb137, 1, none⟩ = some (.bool false) := (blk_cell BK137.out 1).trans rfl
          have hfz24_0 := blk_frozen BK137.out 0
          have hfz24_1 := blk_frozen BK137.out 1
          go_wp2
          go_meet
          case rel => exact ⟨_, ((t131 != t136)), (by first | rfl | (simp; done) | (simp [*]; done)), H', ⟨by first | omega | exact Nat.le_refl _⟩, ⟨by (with_reducible repeat (first | refine blk_drewN ?_ _ | refine blk_drew ?_ | refine blk_alloc ?_ _)); refine blk_far ?_ NB134_137.out _; (with_reducible repeat (first | refine blk_drewN ?_ _ | refine blk_drew ?_ | refine blk_alloc ?_ _)); refine blk_far ?_ NB134_137.out _; (with_reducible repeat (first | refine blk_drewN ?_ _ | refine blk_drew ?_ | refine blk_alloc ?_ _)); exact BK134.out⟩, ⟨by (with_reducible repeat (first | refine blk_drewN ?_ _ | refine blk_drew ?_ | refine blk_alloc ?_ _)); refine blk_put (cs := #[.int .u64 t135, .bool false]) ?_ 1 _ rfl; (with_reducible repeat (first | refine blk_drewN ?_ _ | refine blk_drew ?_ | refine blk_alloc ?_ _)); refine blk_put (cs := #[.int .u64 0, .bool false]) ?_ 0 _ rfl; (with_reducible repeat (first | refine blk_drewN ?_ _ | refine blk_drew ?_ | refine blk_alloc ?_ _)); exact BK137.out⟩, ⟨by repeat (first | (with_reducible first | exact HB.out | apply below_alloc | apply pw_below_drewN | apply below_drew1 | refine below_set ?_ GE134.out | refine below_set ?_ GE137.out) | exact HB.out)⟩⟩
        · rw [if_neg c21] at H
          have c21b0 : (t130 == t135) = false := beq_eq_false_iff_ne.mpr c21
          have c21b1 : (t130 != t135) = true := bne_iff_ne.mpr c21
          have H' := Aside0.mk H
          clear H
          have hnb25 := NB134_137.out
          have hnc25 := NB137_134.out
          have hcz26_0 : w14.cell? ⟨gb134, 0, none⟩ = some (.int .u64 t132) := (blk_cell BK134.out 0).trans rfl
          have hcz26_1 : w14.cell? ⟨gb134, 1, none⟩ = some (.bool t133) := (blk_cell BK134.out 1).trans rfl
          have hfz26_0 := blk_frozen BK134.out 0
          have hfz26_1 := blk_frozen BK134.out 1
          have hcz27_0 : w14.cell? ⟨gb137, 0, none⟩ = some (.int .u64 0) := (blk_cell BK137.out 0).trans rfl
          have hcz27_1 : w14.cell? ⟨gb137, 1, none⟩ = some (.bool false) := (blk_cell BK137.out 1).trans rfl
          have hfz27_0 := blk_frozen BK137.out 0
          have hfz27_1 := blk_frozen BK137.out 1
          go_wp2
          go_meet
          case rel => exact ⟨_, (true), (by first | rfl | (simp; done) | (simp [*]; done)), H', ⟨by first | omega | exact Nat.le_refl _⟩, ⟨by (with_reducible repeat (first | refine blk_drewN ?_ _ | refine blk_drew ?_ | refine blk_alloc ?_ _)); refine blk_far ?_ NB134_137.out _; (with_reducible repeat (first | refine blk_drewN ?_ _ | refine blk_drew ?_ | refine blk_alloc ?_ _)); refine blk_far ?_ NB134_137.out _; (with_reducible repeat (first | refine blk_drewN ?_ _ | refine blk_drew ?_ | refine blk_alloc ?_ _)); exact BK134.out⟩, ⟨by (with_reducible repeat (first | refine blk_drewN ?_ _ | refine blk_drew ?_ | refine blk_alloc ?_ _)); refine blk_put (cs := #[.int .u64 t135, .bool false]) ?_ 1 _ rfl; (with_reducible repeat (first | refine blk_drewN ?_ _ | refine blk_drew ?_ | refine blk_alloc ?_ _)); refine blk_put (cs := #[.int .u64 0, .bool false]) ?_ 0 _ rfl; (with_reducible repeat (first | refine blk_drewN ?_ _ | refine blk_drew ?_ | refine blk_alloc ?_ _)); exact BK137.out⟩, ⟨by repeat (first | (with_reducible first | exact HB.out | apply below_alloc | apply pw_below_drewN | apply below_drew1 | refine below_set ?_ GE134.out | refine below_set ?_ GE137.out) | exact HB.out)⟩⟩
    · rw [if_neg c17] at H
      have c17b0 : (t128 == t132) = false := beq_eq_false_iff_ne.mpr c17
      have c17b1 : (t128 != t132) = true := bne_iff_ne.mpr c17
      (first | rw [c17b0] | (simp only [i64_w, i32_w]; rw [c17b0]) | skip)
      have H' := Aside0.mk H
      clear H
      have hnb28 := NB134_137.out
      have hnc28 := NB137_134.out
      have hcz29_0 : w14.cell? ⟨gb134, 0, none⟩ = some (.int .u64 t132) := (blk_cell BK134.out 0).trans rfl
      have hcz29_1 : w14.cell? ⟨gb134, 1, none⟩ = some (.bool t133) := (blk_cell BK134.out 1).trans rfl
      have hfz29_0 := blk_frozen BK134.out 0
      have hfz29_1 := blk_frozen BK134.out 1
      go_wp2
      go_meet
      case rel => exact ⟨_, (true), (by first | rfl | (simp; done) | (simp [*]; done)), H', ⟨by first | omega | exact Nat.le_refl _⟩, ⟨by (with_reducible repeat (first | refine blk_drewN ?_ _ | refine blk_drew ?_ | refine blk_alloc ?_ _)); refine blk_far ?_ NB134_137.out _; (with_reducible repeat (first | refine blk_drewN ?_ _ | refine blk_drew ?_ | refine blk_alloc ?_ _)); refine blk_far ?_ NB134_137.out _; (with_reducible repeat (first | refine blk_drewN ?_ _ | refine blk_drew ?_ | refine blk_alloc ?_ _)); exact BK134.out⟩, ⟨by (with_reducible repeat (first | refine blk_drewN ?_ _ | refine blk_drew ?_ | refine blk_alloc ?_ _)); refine blk_put (cs := #[.int .u64 t135, .bool false]) ?_ 1 _ rfl; (with_reducible repeat (first | refine blk_drewN ?_ _ | refine blk_drew ?_ | refine blk_alloc ?_ _)); refine blk_put (cs := #[.int .u64 0, .bool false]) ?_ 0 _ rfl; (with_reducible repeat (first | refine blk_drewN ?_ _ | refine blk_drew ?_ | refine blk_alloc ?_ _)); exact BK137.out⟩, ⟨by repeat (first | (with_reducible first | exact HB.out | apply below_alloc | apply pw_below_drewN | apply below_drew1 | refine below_set ?_ GE134.out | refine below_set ?_ GE137.out) | exact HB.out)⟩⟩
  case rest =>
    clear HC8
    try clear c1
    try clear c2
    try clear p2
    try clear c3
    try clear c11
    try clear c12
    try clear c13
    try clear c15
    try clear c17
    try clear c17b0
    try clear c17b1
    try clear c18
    try clear c18b0
    try clear c18b1
    try clear c18b2
    try clear c19
    try clear c21
    try clear c21b0
    try clear c21b1
    try clear c22
    try clear c25
    try clear c28
    try clear hcz12_0
    try clear hcz12_1
    try clear hcz16_0
    try clear hcz16_1
    try clear hcz20_0
    try clear hcz20_1
    try clear hcz23_0
    try clear hcz23_1
    try clear hcz24_0
    try clear hcz24_1
    try clear hcz26_0
    try clear hcz26_1
    try clear hcz27_0
    try clear hcz27_1
    try clear hcz29_0
    try clear hcz29_1
    try clear hfz12_0
    try clear hfz12_1
    try clear hfz16_0
    try clear hfz16_1
    try clear hfz20_0
    try clear hfz20_1
    try clear hfz23_0
    try clear hfz23_1
    try clear hfz24_0
    try clear hfz24_1
    try clear hfz26_0
    try clear hfz26_1
    try clear hfz27_0
    try clear hfz27_1
    try clear hfz29_0
    try clear hfz29_1
    obtain ⟨kq, x57_7, rfl, HA, HJ7, BK134, BK137, HB⟩ := hcut
    cases kq with
    | zero => exact absurd HA.out (by simp [cadencylaw01_NumShifts.j0])
    | succ kj7 =>
      have H := HA.out
      clear HA
      simp only [cadencylaw01_NumShifts.j0] at H
      by_cases c30 : x57_7 = true
      · subst c30
        have H1 : (some false) = some r := by rw [if_pos rfl] at H; exact H
        clear H
        have H := H1
        clear H1
        obtain rfl := Option.some.inj H
        go_wp2
        go_ret
        exact ⟨by first | rfl | (simp [errW_none, errW_some] <;> rfl) | (simp [*, errW_none, errW_some] <;> rfl), by repeat (first | (with_reducible first | exact HB.out | apply below_alloc | apply pw_below_drewN | apply below_drew1 | refine below_set ?_ GE134.out | refine below_set ?_ GE137.out) | exact HB.out)⟩
      · replace c30 := Bool.eq_false_iff.mpr c30
        subst c30
        have H1 : (if (Int.tmod a1 71) ≥ 0 then (if t131 = true then ((num_Shift.f t130 (wrap64 (-(Int.tmod a1 71)))).bind fun bt138 => (if t127 = true then (if bt138.2 = true then (some (bt138.1 == a0)) else (some false)) else (some false))) else (some t127)) else (some t127)) = some r := by rw [if_neg (show ¬ (false = true) by decide)] at H; exact H
        clear H
        have H := H1
        clear H1
        by_cases c31 : (Int.tmod a1 71) ≥ 0
        · rw [if_pos c31] at H
          have c31b0 : decide (0 ≤ (Int.tmod a1 71)) = true := decide_eq_true c31
          clear c31
          by_cases c32 : t131 = true
          · subst c32
            have H1 : ((num_Shift.f t130 (wrap64 (-(Int.tmod a1 71)))).bind fun bt138 => (if t127 = true then (if bt138.2 = true then (some (bt138.1 == a0)) else (some false)) else (some false))) = some r := by rw [if_pos rfl] at H; exact H
            clear H
            have H := H1
            clear H1
            replace H := Option.bind_eq_some_iff.mp H
            obtain ⟨⟨t138, t139⟩, A330, H⟩ := H
            replace H : (if t127 = true then (if t139 = true then (some (t138 == a0)) else (some false)) else (some false)) = some r := H
            have A33 := Aside0.mk A330
            clear A330
            by_cases c34 : t127 = true
            · subst c34
              have H1 : (if t139 = true then (some (t138 == a0)) else (some false)) = some r := by rw [if_pos rfl] at H; exact H
              clear H
              have H := H1
              clear H1
              by_cases c35 : t139 = true
              · subst c35
                have H1 : (some (t138 == a0)) = some r := by rw [if_pos rfl] at H; exact H
                clear H
                have H := H1
                clear H1
                obtain rfl := Option.some.inj H
                go_wp2_with (first | ((with_reducible refine gate_callee (f := 12) rfl ?_); refine goesL_ (some 67) rfl rfl Try.func12 (by kernel_rfl) rfl #[.int .u64 t130, .int .i64 (wrap64 (-(Int.tmod a1 71)))] rfl (by (try simp only [List.map_toArray, List.map_cons, List.map_nil]); first | done | rfl | (simp only [List.length_drop, List.length_take]; rfl)) ?_; (with_reducible refine (num_Shift.calls t130 (wrap64 (-(Int.tmod a1 71))) t138 true _ A33.out).mono ?_); rintro e w' ⟨rfl, ⟨nd, rfl⟩⟩; refine ⟨_, rfl, ?_⟩))
                go_ret
                exact ⟨by first | rfl | (simp [errW_none, errW_some] <;> rfl) | (simp [*, errW_none, errW_some] <;> rfl), by repeat (first | (with_reducible first | exact HB.out | apply below_alloc | apply pw_below_drewN | apply below_drew1 | refine below_set ?_ GE134.out | refine below_set ?_ GE137.out) | exact HB.out)⟩
              · replace c35 := Bool.eq_false_iff.mpr c35
                subst c35
                have H1 : (some false) = some r := by rw [if_neg (show ¬ (false = true) by decide)] at H; exact H
                clear H
                have H := H1
                clear H1
                obtain rfl := Option.some.inj H
                go_wp2_with (first | ((with_reducible refine gate_callee (f := 12) rfl ?_); refine goesL_ (some 67) rfl rfl Try.func12 (by kernel_rfl) rfl #[.int .u64 t130, .int .i64 (wrap64 (-(Int.tmod a1 71)))] rfl (by (try simp only [List.map_toArray, List.map_cons, List.map_nil]); first | done | rfl | (simp only [List.length_drop, List.length_take]; rfl)) ?_; (with_reducible refine (num_Shift.calls t130 (wrap64 (-(Int.tmod a1 71))) t138 false _ A33.out).mono ?_); rintro e w' ⟨rfl, ⟨nd, rfl⟩⟩; refine ⟨_, rfl, ?_⟩))
                go_ret
                exact ⟨by first | rfl | (simp [errW_none, errW_some] <;> rfl) | (simp [*, errW_none, errW_some] <;> rfl), by repeat (first | (with_reducible first | exact HB.out | apply below_alloc | apply pw_below_drewN | apply below_drew1 | refine below_set ?_ GE134.out | refine below_set ?_ GE137.out) | exact HB.out)⟩
            · replace c34 := Bool.eq_false_iff.mpr c34
              subst c34
              have H1 : (some false) = some r := by rw [if_neg (show ¬ (false = true) by decide)] at H; exact H
              clear H
              have H := H1
              clear H1
              obtain rfl := Option.some.inj H
              go_wp2_with (first | ((with_reducible refine gate_callee (f := 12) rfl ?_); refine goesL_ (some 67) rfl rfl Try.func12 (by kernel_rfl) rfl #[.int .u64 t130, .int .i64 (wrap64 (-(Int.tmod a1 71)))] rfl (by (try simp only [List.map_toArray, List.map_cons, List.map_nil]); first | done | rfl | (simp only [List.length_drop, List.length_take]; rfl)) ?_; (with_reducible refine (num_Shift.calls t130 (wrap64 (-(Int.tmod a1 71))) t138 t139 _ A33.out).mono ?_); rintro e w' ⟨rfl, ⟨nd, rfl⟩⟩; refine ⟨_, rfl, ?_⟩))
              go_ret
              exact ⟨by first | rfl | (simp [errW_none, errW_some] <;> rfl) | (simp [*, errW_none, errW_some] <;> rfl), by repeat (first | (with_reducible first | exact HB.out | apply below_alloc | apply pw_below_drewN | apply below_drew1 | refine below_set ?_ GE134.out | refine below_set ?_ GE137.out) | exact HB.out)⟩
          · replace c32 := Bool.eq_false_iff.mpr c32
            subst c32
            have H1 : (some t127) = some r := by rw [if_neg (show ¬ (false = true) by decide)] at H; exact H
            clear H
            have H := H1
            clear H1
            obtain rfl := Option.some.inj H
            go_wp2
            go_ret
            exact ⟨by first | rfl | (simp [errW_none, errW_some] <;> rfl) | (simp [*, errW_none, errW_some] <;> rfl), by repeat (first | (with_reducible first | exact HB.out | apply below_alloc | apply pw_below_drewN | apply below_drew1 | refine below_set ?_ GE134.out | refine below_set ?_ GE137.out) | exact HB.out)⟩
        · rw [if_neg c31] at H
          have c31b0 : decide (0 ≤ (Int.tmod a1 71)) = false := decide_eq_false c31
          clear c31
          obtain rfl := Option.some.inj H
          go_wp2
          go_ret
          exact ⟨by first | rfl | (simp [errW_none, errW_some] <;> rfl) | (simp [*, errW_none, errW_some] <;> rfl), by repeat (first | (with_reducible first | exact HB.out | apply below_alloc | apply pw_below_drewN | apply below_drew1 | refine below_set ?_ GE134.out | refine below_set ?_ GE137.out) | exact HB.out)⟩

/-- THE ONE PURE STATEMENT of cadencylaw01_NumShifts: yours. -/
def cadencylaw01_NumShifts.Pure : Prop := ∀ (a0 : Int) (a1 : Int), (Lit.int .u64 a0).wf = true → (Lit.int .i64 a1).wf = true → ∃ k, cadencylaw01_NumShifts.f k a0 a1 = some true
theorem cadencylaw01_NumShifts.walk (P : cadencylaw01_NumShifts.Pure) (a0 : Int) (a1 : Int) (w : World) (w0 : (Lit.int .u64 a0).wf = true) (w1 : (Lit.int .i64 a1).wf = true) :
    Calls Try.prog 3 #[.int .u64 a0, .int .i64 a1] w fun e w' => e = .returned (.bool true) ∧ Below w.heap.size w w' := by
  obtain ⟨k, h⟩ := P a0 a1 w0 w1
  refine (cadencylaw01_NumShifts.calls k a0 a1 true w h).mono ?_
  rintro e w' ⟨rfl, hd⟩
  exact ⟨rfl, hd⟩

end Go.Proofs.Ythhojifpogghlaa.PAll
