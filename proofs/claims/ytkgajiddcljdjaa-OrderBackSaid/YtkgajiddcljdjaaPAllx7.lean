-- Laid by wip/printx.py, over the print of the kit.
import Derived.Test.YtkgajiddcljdjaaPAllx0
namespace Go.Proofs.Ytkgajiddcljdjaa.PAll
open Go.RowKit Go.Proofs.YtkgajiddcljdjaaW.PrintWords Go.Proofs.YtkgajiddcljdjaaW.PrintLast Go.Proofs.YtkgajiddcljdjaaW.PrintMore
attribute [local go_sem] max2_int min2_int max_two min_two max_three min_three max_four min_four   -- for this text's walks alone
set_option linter.unusedVariables false
set_option linter.unusedSimpArgs false

/-! ### cadencyref18_Made: function 10 -/
mutual
def cadencyref18_Made.l0 : Nat → Int → List Int → List Int → Int → Option (List Int)
  | 0, _, _, _, _ => none
  | k + 1, x0, x1, x5, x6 => if x6 < x0 then (if x5.length < 17592186044416 then (cadencyref18_Made.l0 k x0 x1 (x5 ++ [x6]) (wrap64 (x6 + 1))) else (none)) else (cadencyref18_Made.l1 k x0 x1 x5 ([] : List Int) 0)
def cadencyref18_Made.l1 : Nat → Int → List Int → List Int → List Int → Int → Option (List Int)
  | 0, _, _, _, _, _ => none
  | k + 1, x0, x1, x5, x7, x8 => if x8 < x0 then (if x8 < (x1.length : Int) then (if 0 ≤ x8 then (if (x5.length : Int) = 0 then (none) else (if 0 ≤ (Int.tmod (wrap64 ((Int.tmod (rd x1 x8) (x5.length : Int)) + (x5.length : Int))) (x5.length : Int)) then (if (Int.tmod (wrap64 ((Int.tmod (rd x1 x8) (x5.length : Int)) + (x5.length : Int))) (x5.length : Int)) < (x5.length : Int) then (if x7.length < 17592186044416 then ((some (([] : List Int) : List Int)).bind fun y132 => (if (Int.tmod (wrap64 ((Int.tmod (rd x1 x8) (x5.length : Int)) + (x5.length : Int))) (x5.length : Int)) ≤ (x5.length : Int) then ((some (x5.take ((Int.tmod (wrap64 ((Int.tmod (rd x1 x8) (x5.length : Int)) + (x5.length : Int))) (x5.length : Int)) : Int).toNat : List Int)).bind fun y135 => (if y132.length + y135.length < 17592186044416 then ((some (y132 ++ y135 : List Int)).bind fun y139 => (if 0 ≤ (wrap64 ((Int.tmod (wrap64 ((Int.tmod (rd x1 x8) (x5.length : Int)) + (x5.length : Int))) (x5.length : Int)) + 1)) then (if (wrap64 ((Int.tmod (wrap64 ((Int.tmod (rd x1 x8) (x5.length : Int)) + (x5.length : Int))) (x5.length : Int)) + 1)) ≤ (x5.length : Int) then ((some (x5.drop ((wrap64 ((Int.tmod (wrap64 ((Int.tmod (rd x1 x8) (x5.length : Int)) + (x5.length : Int))) (x5.length : Int)) + 1)) : Int).toNat : List Int)).bind fun y142 => (if y139.length + y142.length < 17592186044416 then (cadencyref18_Made.l1 k x0 x1 (y139 ++ y142) (x7 ++ [rd x5 (Int.tmod (wrap64 ((Int.tmod (rd x1 x8) (x5.length : Int)) + (x5.length : Int))) (x5.length : Int))]) (wrap64 (x8 + 1))) else (none))) else (none)) else (none))) else (none))) else (none))) else (none)) else (none)) else (none))) else (none)) else (if 0 < (x5.length : Int) then (if x7.length < 17592186044416 then ((some (([] : List Int) : List Int)).bind fun y153 => (if 0 ≤ (x5.length : Int) then ((some (x5.take 0 : List Int)).bind fun y156 => (if y153.length + y156.length < 17592186044416 then ((some (y153 ++ y156 : List Int)).bind fun y160 => (if 1 ≤ (x5.length : Int) then ((some (x5.drop 1 : List Int)).bind fun y163 => (if y160.length + y163.length < 17592186044416 then (cadencyref18_Made.l1 k x0 x1 (y160 ++ y163) (x7 ++ [rd x5 0]) (wrap64 (x8 + 1))) else (none))) else (none))) else (none))) else (none))) else (none)) else (none))) else (some x7)
end
def cadencyref18_Made.f (k : Nat) (a0 : Int) (l1 : List Int) : Option (List Int) := cadencyref18_Made.l0 k a0 l1 ([] : List Int) 0
theorem cadencyref18_Made.mono_l : ∀ k, (∀ y0 y1 y2 y3, LeO (cadencyref18_Made.l0 k y0 y1 y2 y3) (cadencyref18_Made.l0 (k + 1) y0 y1 y2 y3)) ∧ (∀ y0 y1 y2 y3 y4, LeO (cadencyref18_Made.l1 k y0 y1 y2 y3 y4) (cadencyref18_Made.l1 (k + 1) y0 y1 y2 y3 y4))
  | 0 => ⟨fun _ _ _ _ r h => by simp [cadencyref18_Made.l0] at h, fun _ _ _ _ _ r h => by simp [cadencyref18_Made.l1] at h⟩
  | k + 1 => by
    obtain ⟨ih0, ih1⟩ := cadencyref18_Made.mono_l k
    refine ⟨?_, ?_⟩
    · intro y0 y1 y2 y3
      unfold cadencyref18_Made.l0
      repeat' first
      | (with_reducible exact ih0 _ _ _ _)
      | (with_reducible exact ih1 _ _ _ _ _)
      | (with_reducible exact LeO.refl _)
      | (with_reducible exact LeO.none _)
      | (with_reducible refine LeO.ite ?_ ?_)
      | (with_reducible refine LeO.bind ?_ (fun _ => ?_))
      | exact ih0 _ _ _ _
      | exact ih1 _ _ _ _ _
      | exact LeO.none _
      | refine LeO.ite ?_ ?_
      | refine LeO.bind ?_ (fun _ => ?_)
    · intro y0 y1 y2 y3 y4
      unfold cadencyref18_Made.l1
      repeat' first
      | (with_reducible exact ih0 _ _ _ _)
      | (with_reducible exact ih1 _ _ _ _ _)
      | (with_reducible exact LeO.refl _)
      | (with_reducible exact LeO.none _)
      | (with_reducible refine LeO.ite ?_ ?_)
      | (with_reducible refine LeO.bind ?_ (fun _ => ?_))
      | exact ih0 _ _ _ _
      | exact ih1 _ _ _ _ _
      | exact LeO.none _
      | refine LeO.ite ?_ ?_
      | refine LeO.bind ?_ (fun _ => ?_)
theorem cadencyref18_Made.mono : ∀ a0 a1 k, LeO (cadencyref18_Made.f k a0 a1) (cadencyref18_Made.f (k + 1) a0 a1) := by
  intro a0 a1 k
  obtain ⟨ih0, ih1⟩ := cadencyref18_Made.mono_l k
  unfold cadencyref18_Made.f
  repeat' first
      | (with_reducible exact ih0 _ _ _ _)
      | (with_reducible exact ih1 _ _ _ _ _)
      | (with_reducible exact LeO.refl _)
      | (with_reducible exact LeO.none _)
      | (with_reducible refine LeO.ite ?_ ?_)
      | (with_reducible refine LeO.bind ?_ (fun _ => ?_))
      | exact ih0 _ _ _ _
      | exact ih1 _ _ _ _ _
      | exact LeO.none _
      | refine LeO.ite ?_ ?_
      | refine LeO.bind ?_ (fun _ => ?_)
def cadencyref18_Made.T14 : Bool × List (List Nat × List Nat) := (true, [([], []), ([], []), ([], []), ([1, 2], [1, 2]), ([0, 3], [0, 3]), ([], []), ([], []), ([6], [6]), ([5, 7], [5, 7]), ([4, 8, 4], [4, 8]), ([9, 9, 0, 1, 2, 3, 4, 5, 6, 7, 8, 9], [1, 5, 9])])
def cadencyref18_Made.B14 : List Nat := [0, 0, 0, 6, 15, 0, 0, 64, 224, 511, 1023]
theorem cadencyref18_Made.tab14 : rtab .any (opsOf Try.f10 14) = cadencyref18_Made.T14 := by kernel_rfl
theorem cadencyref18_Made.bits14 : waitsOk cadencyref18_Made.T14.2 cadencyref18_Made.B14 = true := by kernel_rfl
set_option maxHeartbeats 8000000 in
set_option maxRecDepth 100000 in
theorem cadencyref18_Made.calls (k : Nat) (a0 : Int) (A1 : Option Addr) (c1 : Nat) (l1 : List Int) (r : List Int) (w : World) (hr1 : Kd.C (Kd.int .i64) w A1 l1.length l1) (hc1 : l1.length ≤ c1) (h : cadencyref18_Made.f k a0 l1 = some r) :
    Calls Try.prog 10 #[.int .i64 a0, .slice A1 l1.length c1] w fun e w' => ∃ v0_ : Value, e = .returned (v0_) ∧ Kd.R (Kd.int .i64) 3 w' w.heap.size (fun _ => True) v0_ r ∧ Below w.heap.size w w' := by
  have HR1 := Aside0.mk hr1
  have HC1 := Aside0.mk hc1
  clear hr1 hc1
  have HB := Aside0.mk (Below.refl w.heap.size w)
  have H : (cadencyref18_Made.l0 k a0 l1 ([] : List Int) 0) = some r := h
  clear h
  have H' := Aside0.mk H
  clear H
  go_enter Try.func10, Try.ntmps10
  go_wp2
  go_loopg [5, 6] k (fun kq v5 v6 w' => ∃ (x5_1 : List Int) (x6_1 : Int), v6 = .int .i64 x6_1 ∧ Aside0 (cadencyref18_Made.l0 kq a0 l1 x5_1 x6_1 = some r) ∧ Aside0 (kq ≤ k) ∧ Aside0 (Kd.R (Kd.int .i64) 3 w' w.heap.size (fun _ => True) v5 x5_1) ∧ Aside0 (Below w.heap.size w w'))
  case atStart => exact ⟨(([] : List Int)), (0), (by first | rfl | (simp; done) | (simp [*]; done)), H', ⟨Nat.le_refl _⟩, ⟨by first | exact Kd.R_nil _ _ _ _ _ | exact Kd.N_nil _ _ _ _ _ | exact Kd.V_nil _ _ _ _ _ | exact Kd.Q_nil _ _ _ _ _ | exact Kd.S_nil _ _ _ _ _⟩, ⟨by repeat (first | (with_reducible first | exact HB.out | apply below_alloc | apply pw_below_drewN | apply below_drew1) | exact HB.out)⟩⟩
  case round =>
    clear H'
    try clear c1
    try clear p2
    obtain ⟨x5_1, x6_1, rfl, HA, HK1, HO_5, HB⟩ := hrel
    cases gk with
    | zero => exact absurd HA.out (by simp [cadencyref18_Made.l0])
    | succ k1 =>
      have H := HA.out
      clear HA
      simp only [cadencyref18_Made.l0] at H
      by_cases c3 : x6_1 < a0
      · rw [if_pos c3] at H
        have c3b0 : decide (x6_1 < a0) = true := decide_eq_true c3
        clear c3
        by_cases c4 : x5_1.length < 17592186044416
        · rw [if_pos c4] at H
          have LMc4 := Aside0.mk c4
          clear c4
          obtain ⟨y124, hy124⟩ : ∃ y_ : List Int, y_ = (x5_1 ++ [x6_1]) := ⟨_, rfl⟩
          replace H : (cadencyref18_Made.l0 k1 a0 l1 y124 (wrap64 (x6_1 + 1))) = some r := by first | (rw [hy124]; with_reducible exact H) | (have H2_ := (Option.bind_some _ _).symm.trans H; rw [hy124]; with_reducible exact H2_) | (have H2_ := (Option.bind_some _ _).symm.trans H; with_reducible exact H2_) | with_reducible exact H | (rw [hy124]; exact H) | exact H
          have Ny124 := Aside0.mk hy124
          clear hy124
          have H' := Aside0.mk H
          clear H
          go_wp2_with (first | ((with_reducible refine gate_builtin (b := .append) (xs := #[.tmp 15, .tmp 17]) rfl ?_); at_builtin; refine Kd.R_append (Kd.int .i64) (w0 := w) w.heap.size rfl (.tmp 15) (.tmp 17) 22 3 (.int .i64 0) 8 rfl Try.underlying22 info3 rfl (by decide) (by omega) u5 x5_1 x6_1 [.int .i64 x6_1] (fun _ => True) (fun _ => False) rfl rfl ?aP (fun _ hk => hk.elim) ?aF ?aO ?aB ?aS ?aL ?_; (case aP => exact rfl); (case aB => exact (by repeat (first | (with_reducible first | exact HB.out | apply below_alloc | apply pw_below_drewN | apply below_drew1) | exact HB.out))); (case aF => exact (fun _ _ => trivial)); (case aO => exact (by (with_reducible repeat (first | apply Kd.R_alloc | apply Kd.R_drewN | apply Kd.R_drew)); exact HO_5.out)); (case aS => exact (below_size (by repeat (first | (with_reducible first | exact HB.out | apply below_alloc | apply pw_below_drewN | apply below_drew1) | exact HB.out)))); (case aL => have := LMc4.out; omega); intro v125 w5 ho hb hg hat; rw [← Ny124.out] at ho; have n0_ := Aside0.mk (hb); have n1_ := Aside0.mk (ho); clear HB; clear HO_5; have HB := n0_; have HO126 := n1_; clear n0_ n1_; clear ho hb hg hat))
          go_roundg k1
          case measure => have := HK1.out; omega
          case rel => exact ⟨(y124), (wrap64 (x6_1 + 1)), (by first | rfl | (simp; done) | (simp [*]; done)), H', ⟨by have := HK1.out; omega⟩, ⟨by (with_reducible repeat (first | apply Kd.R_alloc | apply Kd.R_drewN | apply Kd.R_drew)); exact HO126.out⟩, ⟨by repeat (first | (with_reducible first | exact HB.out | apply below_alloc | apply pw_below_drewN | apply below_drew1) | exact HB.out)⟩⟩
        · rw [if_neg c4] at H
          exact absurd H (by simp)
      · rw [if_neg c3] at H
        have c3b0 : decide (x6_1 < a0) = false := decide_eq_false c3
        clear c3
        have H' := Aside0.mk H
        clear H
        go_wp2
        go_loopg [5, 7, 8] k1 (fun kq v5 v7 v8 w' => ∃ (x5_2 : List Int) (x7_2 : List Int) (x8_2 : Int), v8 = .int .i64 x8_2 ∧ Aside0 (cadencyref18_Made.l1 kq a0 l1 x5_2 x7_2 x8_2 = some r) ∧ Aside0 (kq ≤ k1) ∧ Aside0 (Kd.R (Kd.int .i64) 3 w' w.heap.size (fun k_ => some k_ ≠ (v7 : Value).ownBlock) v5 x5_2) ∧ Aside0 (Kd.R (Kd.int .i64) 3 w' w.heap.size (fun k_ => some k_ ≠ (v5 : Value).ownBlock) v7 x7_2) ∧ Aside0 (Below w.heap.size w w'))
        case atStart => exact ⟨(x5_1), (([] : List Int)), (0), (by first | rfl | (simp; done) | (simp [*]; done)), H', ⟨Nat.le_refl _⟩, ⟨by (with_reducible repeat (first | apply Kd.R_alloc | apply Kd.R_drewN | apply Kd.R_drew)); exact Kd.R_mono HO_5.out (fun _ hk => (by simp [Value.ownBlock]))⟩, ⟨by first | exact Kd.R_nil _ _ _ _ _ | exact Kd.N_nil _ _ _ _ _ | exact Kd.V_nil _ _ _ _ _ | exact Kd.Q_nil _ _ _ _ _ | exact Kd.S_nil _ _ _ _ _⟩, ⟨by repeat (first | (with_reducible first | exact HB.out | apply below_alloc | apply pw_below_drewN | apply below_drew1) | exact HB.out)⟩⟩
        case round =>
          clear H'
          try clear c1
          try clear p2
          try clear c3
          try clear c3b0
          try clear c4
          try clear p2
          obtain ⟨x5_2, x7_2, x8_2, rfl, HA, HK2, HO_5, HO_7, HB⟩ := hrel
          cases gk with
          | zero => exact absurd HA.out (by simp [cadencyref18_Made.l1])
          | succ k2 =>
            have H := HA.out
            clear HA
            simp only [cadencyref18_Made.l1] at H
            by_cases c6 : x8_2 < a0
            · rw [if_pos c6] at H
              have c6b0 : decide (x8_2 < a0) = true := decide_eq_true c6
              clear c6
              by_cases c7 : x8_2 < (l1.length : Int)
              · rw [if_pos c7] at H
                have c7b0 : decide (x8_2 < (l1.length : Int)) = true := decide_eq_true c7
                clear c7
                by_cases c8 : 0 ≤ x8_2
                · rw [if_pos c8] at H
                  have c8b0 : decide (0 ≤ x8_2) = true := decide_eq_true c8
                  clear c8
                  by_cases c9 : (x5_2.length : Int) = 0
                  · rw [if_pos c9] at H
                    exact absurd H (by simp)
                  · rw [if_neg c9] at H
                    have c9b0 : ((x5_2.length : Int) == 0) = false := beq_eq_false_iff_ne.mpr c9
                    have c9b1 : ((x5_2.length : Int) != 0) = true := bne_iff_ne.mpr c9
                    have c9b2 : ¬ (x5_2 = []) := fun h_ => c9 (by rw [h_]; rfl)
                    obtain ⟨ji10, hji10⟩ : ∃ j_ : Int, (Int.tmod (wrap64 ((Int.tmod (rd l1 x8_2) (x5_2.length : Int)) + (x5_2.length : Int))) (x5_2.length : Int)) = j_ := ⟨_, rfl⟩
                    replace H : (if 0 ≤ (ji10) then (if (ji10) < (x5_2.length : Int) then (if x7_2.length < 17592186044416 then ((some (([] : List Int) : List Int)).bind fun y132 => (if (ji10) ≤ (x5_2.length : Int) then ((some (x5_2.take ((ji10) : Int).toNat : List Int)).bind fun y135 => (if y132.length + y135.length < 17592186044416 then ((some (y132 ++ y135 : List Int)).bind fun y139 => (if 0 ≤ (wrap64 ((ji10) + 1)) then (if (wrap64 ((ji10) + 1)) ≤ (x5_2.length : Int) then ((some (x5_2.drop ((wrap64 ((ji10) + 1)) : Int).toNat : List Int)).bind fun y142 => (if y139.length + y142.length < 17592186044416 then (cadencyref18_Made.l1 k2 a0 l1 (y139 ++ y142) (x7_2 ++ [rd x5_2 (ji10)]) (wrap64 (x8_2 + 1))) else (none))) else (none)) else (none))) else (none))) else (none))) else (none)) else (none)) else (none)) = some r := by first | (rw [hji10] at H; exact H) | (simp only [hji10] at H ⊢; exact H)
                    by_cases c11 : 0 ≤ (ji10)
                    · rw [if_pos c11] at H
                      have c11b0 : decide (0 ≤ (ji10)) = true := decide_eq_true c11
                      clear c11
                      by_cases c12 : (ji10) < (x5_2.length : Int)
                      · rw [if_pos c12] at H
                        have c12b0 : decide ((ji10) < (x5_2.length : Int)) = true := decide_eq_true c12
                        clear c12
                        by_cases c13 : x7_2.length < 17592186044416
                        · rw [if_pos c13] at H
                          have LMc13 := Aside0.mk c13
                          clear c13
                          obtain ⟨y129, hy129⟩ : ∃ y_ : List Int, y_ = (x7_2 ++ [rd x5_2 (ji10)]) := ⟨_, rfl⟩
                          replace H : ((some (([] : List Int) : List Int)).bind fun y132 => (if (ji10) ≤ (x5_2.length : Int) then ((some (x5_2.take ((ji10) : Int).toNat : List Int)).bind fun y135 => (if y132.length + y135.length < 17592186044416 then ((some (y132 ++ y135 : List Int)).bind fun y139 => (if 0 ≤ (wrap64 ((ji10) + 1)) then (if (wrap64 ((ji10) + 1)) ≤ (x5_2.length : Int) then ((some (x5_2.drop ((wrap64 ((ji10) + 1)) : Int).toNat : List Int)).bind fun y142 => (if y139.length + y142.length < 17592186044416 then (cadencyref18_Made.l1 k2 a0 l1 (y139 ++ y142) y129 (wrap64 (x8_2 + 1))) else (none))) else (none)) else (none))) else (none))) else (none))) = some r := by first | (rw [hy129]; with_reducible exact H) | (have H2_ := (Option.bind_some _ _).symm.trans H; rw [hy129]; with_reducible exact H2_) | (have H2_ := (Option.bind_some _ _).symm.trans H; with_reducible exact H2_) | with_reducible exact H | (rw [hy129]; exact H) | exact H
                          have Ny129 := Aside0.mk hy129
                          clear hy129
                          obtain ⟨y132, hy132⟩ : ∃ y_ : List Int, y_ = (([] : List Int)) := ⟨_, rfl⟩
                          replace H : (if (ji10) ≤ (x5_2.length : Int) then ((some (x5_2.take ((ji10) : Int).toNat : List Int)).bind fun y135 => (if y132.length + y135.length < 17592186044416 then ((some (y132 ++ y135 : List Int)).bind fun y139 => (if 0 ≤ (wrap64 ((ji10) + 1)) then (if (wrap64 ((ji10) + 1)) ≤ (x5_2.length : Int) then ((some (x5_2.drop ((wrap64 ((ji10) + 1)) : Int).toNat : List Int)).bind fun y142 => (if y139.length + y142.length < 17592186044416 then (cadencyref18_Made.l1 k2 a0 l1 (y139 ++ y142) y129 (wrap64 (x8_2 + 1))) else (none))) else (none)) else (none))) else (none))) else (none)) = some r := by first | (rw [hy132]; with_reducible exact H) | (have H2_ := (Option.bind_some _ _).symm.trans H; rw [hy132]; with_reducible exact H2_) | (have H2_ := (Option.bind_some _ _).symm.trans H; with_reducible exact H2_) | with_reducible exact H | (rw [hy132]; exact H) | exact H
                          have Ny132 := Aside0.mk hy132
                          clear hy132
                          have c14b0 := eq_true (of_decide_eq_true (by first | (with_reducible assumption) | assumption) : 0 ≤ (ji10))
                          by_cases c15 : (ji10) ≤ (x5_2.length : Int)
                          · rw [if_pos c15] at H
                            have c15b0 := eq_true c15
                            have c15b1 : decide ((ji10) ≤ (x5_2.length : Int)) = true := decide_eq_true c15
                            clear c15
                            obtain ⟨y135, hy135⟩ : ∃ y_ : List Int, y_ = (x5_2.take ((ji10) : Int).toNat) := ⟨_, rfl⟩
                            replace H : (if y132.length + y135.length < 17592186044416 then ((some (y132 ++ y135 : List Int)).bind fun y139 => (if 0 ≤ (wrap64 ((ji10) + 1)) then (if (wrap64 ((ji10) + 1)) ≤ (x5_2.length : Int) then ((some (x5_2.drop ((wrap64 ((ji10) + 1)) : Int).toNat : List Int)).bind fun y142 => (if y139.length + y142.length < 17592186044416 then (cadencyref18_Made.l1 k2 a0 l1 (y139 ++ y142) y129 (wrap64 (x8_2 + 1))) else (none))) else (none)) else (none))) else (none)) = some r := by first | (rw [hy135]; with_reducible exact H) | (have H2_ := (Option.bind_some _ _).symm.trans H; rw [hy135]; with_reducible exact H2_) | (have H2_ := (Option.bind_some _ _).symm.trans H; with_reducible exact H2_) | with_reducible exact H | (rw [hy135]; exact H) | exact H
                            have Ny135 := Aside0.mk hy135
                            clear hy135
                            by_cases c16 : y132.length + y135.length < 17592186044416
                            · rw [if_pos c16] at H
                              have LMc16 := Aside0.mk c16
                              clear c16
                              obtain ⟨y139, hy139⟩ : ∃ y_ : List Int, y_ = (y132 ++ y135) := ⟨_, rfl⟩
                              replace H : (if 0 ≤ (wrap64 ((ji10) + 1)) then (if (wrap64 ((ji10) + 1)) ≤ (x5_2.length : Int) then ((some (x5_2.drop ((wrap64 ((ji10) + 1)) : Int).toNat : List Int)).bind fun y142 => (if y139.length + y142.length < 17592186044416 then (cadencyref18_Made.l1 k2 a0 l1 (y139 ++ y142) y129 (wrap64 (x8_2 + 1))) else (none))) else (none)) else (none)) = some r := by first | (rw [hy139]; with_reducible exact H) | (have H2_ := (Option.bind_some _ _).symm.trans H; rw [hy139]; with_reducible exact H2_) | (have H2_ := (Option.bind_some _ _).symm.trans H; with_reducible exact H2_) | with_reducible exact H | (rw [hy139]; exact H) | exact H
                              have Ny139 := Aside0.mk hy139
                              clear hy139
                              obtain ⟨ji17, hji17⟩ : ∃ j_ : Int, (wrap64 ((ji10) + 1)) = j_ := ⟨_, rfl⟩
                              replace H : (if 0 ≤ (ji17) then (if (ji17) ≤ (x5_2.length : Int) then ((some (x5_2.drop ((ji17) : Int).toNat : List Int)).bind fun y142 => (if y139.length + y142.length < 17592186044416 then (cadencyref18_Made.l1 k2 a0 l1 (y139 ++ y142) y129 (wrap64 (x8_2 + 1))) else (none))) else (none)) else (none)) = some r := by first | (rw [hji17] at H; exact H) | (simp only [hji17] at H ⊢; exact H)
                              have hji17w : (IntKind.i64.wrap ((ji10) + 1)) = ji17 := (i64_w _).trans hji17
                              by_cases c18 : 0 ≤ (ji17)
                              · rw [if_pos c18] at H
                                have c18b0 := eq_true c18
                                have c18b1 : decide (0 ≤ (ji17)) = true := decide_eq_true c18
                                clear c18
                                by_cases c19 : (ji17) ≤ (x5_2.length : Int)
                                · rw [if_pos c19] at H
                                  have c19b0 := eq_true c19
                                  have c19b1 : decide ((ji17) ≤ (x5_2.length : Int)) = true := decide_eq_true c19
                                  clear c19
                                  obtain ⟨y142, hy142⟩ : ∃ y_ : List Int, y_ = (x5_2.drop ((ji17) : Int).toNat) := ⟨_, rfl⟩
                                  replace H : (if y139.length + y142.length < 17592186044416 then (cadencyref18_Made.l1 k2 a0 l1 (y139 ++ y142) y129 (wrap64 (x8_2 + 1))) else (none)) = some r := by first | (rw [hy142]; with_reducible exact H) | (have H2_ := (Option.bind_some _ _).symm.trans H; rw [hy142]; with_reducible exact H2_) | (have H2_ := (Option.bind_some _ _).symm.trans H; with_reducible exact H2_) | with_reducible exact H | (rw [hy142]; exact H) | exact H
                                  have Ny142 := Aside0.mk hy142
                                  clear hy142
                                  by_cases c20 : y139.length + y142.length < 17592186044416
                                  · rw [if_pos c20] at H
                                    have LMc20 := Aside0.mk c20
                                    clear c20
                                    obtain ⟨y146, hy146⟩ : ∃ y_ : List Int, y_ = (y139 ++ y142) := ⟨_, rfl⟩
                                    replace H : (cadencyref18_Made.l1 k2 a0 l1 y146 y129 (wrap64 (x8_2 + 1))) = some r := by first | (rw [hy146]; with_reducible exact H) | (have H2_ := (Option.bind_some _ _).symm.trans H; rw [hy146]; with_reducible exact H2_) | (have H2_ := (Option.bind_some _ _).symm.trans H; with_reducible exact H2_) | with_reducible exact H | (rw [hy146]; exact H) | exact H
                                    have Ny146 := Aside0.mk hy146
                                    clear hy146
                                    have H' := Aside0.mk H
                                    clear H
                                    have p127 : 0 ≤ (x8_2 : Int) := of_decide_eq_true (by first | (with_reducible assumption) | assumption)
                                    have q127 : x8_2 < (l1.length : Int) := of_decide_eq_true (by first | (with_reducible assumption) | assumption)
                                    obtain ⟨ad127, e127, hx127_0⟩ := Kd.at_int HR1.out x8_2 p127 q127
                                    cases e127
                                    replace hx127_0 := (HB.out.cell (World.block_lt_of_cell? w _ hx127_0)).trans hx127_0
                                    replace p127 := eq_true p127
                                    replace q127 := eq_true q127
                                    obtain ⟨Ao21, co21, eo21⟩ := Kd.R_slice HO_5.out
                                    subst eo21
                                    have p128 : 0 ≤ ((ji10) : Int) := of_decide_eq_true (by first | (with_reducible assumption) | assumption)
                                    have q128 : (ji10) < (x5_2.length : Int) := of_decide_eq_true (by first | (with_reducible assumption) | assumption)
                                    obtain ⟨ad128, e128, hx128_0⟩ := Kd.at_int (Kd.R_reads' HO_5.out).2.2 (ji10) p128 q128
                                    cases e128
                                    replace p128 := eq_true p128
                                    replace q128 := eq_true q128
                                    try go_wp2_with (first | ((with_reducible refine gate_builtin (b := .append) (xs := #[.tmp 41, .tmp 46]) rfl ?_); at_builtin; refine Kd.R_append (Kd.int .i64) (w0 := w) w.heap.size rfl (.tmp 41) (.tmp 46) 22 3 (.int .i64 0) 8 rfl Try.underlying22 info3 rfl (by decide) (by omega) u7 x7_2 (rd x5_2 (ji10)) [.int .i64 (rd x5_2 (ji10))] (fun k_ => some k_ ≠ (.slice (some ad128) x5_2.length co21 : Value).ownBlock) (fun _ => False) rfl rfl ?aP (fun _ hk => hk.elim) ?aF ?aO ?aB ?aS ?aL ?_; (case aP => exact rfl); (case aB => exact (by repeat (first | (with_reducible first | exact HB.out | apply below_alloc | apply pw_below_drewN | apply below_drew1) | exact HB.out))); (case aF => exact (fun k_ hk => Kd.fresh' (Kd.R_lt (by (with_reducible repeat (first | apply Kd.R_alloc | apply Kd.R_drewN | apply Kd.R_drew)); exact HO_5.out)) k_ hk)); (case aO => exact (by (with_reducible repeat (first | apply Kd.R_alloc | apply Kd.R_drewN | apply Kd.R_drew)); exact HO_7.out)); (case aS => exact (below_size (by repeat (first | (with_reducible first | exact HB.out | apply below_alloc | apply pw_below_drewN | apply below_drew1) | exact HB.out)))); (case aL => have := LMc13.out; omega); intro v130 w22 ho hb hg hat; rw [← Ny129.out] at ho; have n0_ := Aside0.mk (Kd.R_after (ok := (fun _ => True)) (by (with_reducible repeat (first | apply Kd.R_alloc | apply Kd.R_drewN | apply Kd.R_drew)); exact Kd.R_mono HO_5.out (fun _ hk => ⟨trivial, hk⟩)) hg hat); have n1_ := Aside0.mk (hb); have n2_ := Aside0.mk (ho); clear HO_5; clear HB; clear HO_7; have HO_5 := n0_; have HB := n1_; have HO131 := n2_; clear n0_ n1_ n2_; clear ho hb hg hat))
                                    have n0_ := Aside0.mk (Kd.R_drew HO_5.out)
                                    have n1_ := Aside0.mk (Kd.R_drew HO131.out)
                                    have n2_ := Aside0.mk (below_drew1 HB.out)
                                    clear HO_5
                                    clear HO131
                                    clear HB
                                    have HO_5 := n0_
                                    have HO131 := n1_
                                    have HB := n2_
                                    clear n0_ n1_ n2_
                                    have q24 : ((ji10) : Int) ≤ ((x5_2.length : Int) : Int) := of_decide_eq_true (by first | (with_reducible assumption) | assumption)
                                    obtain ⟨i024, hi024, _, hsz24, _⟩ := info_parts info3
                                    have hroom24 : x5_2.length ≤ co21 := (Kd.R_reads' HO_5.out).2.1
                                    have hC24 : Kd.C (Kd.int .i64) _ (some ad128) x5_2.length x5_2 := (Kd.R_reads' HO_5.out).2.2
                                    have hcut24 := cut_to (P := Try.prog) 22 3 .i64 Try.underlying22 hi024 (some ad128) x5_2.length co21 (ji10) (of_decide_eq_true (by first | (with_reducible assumption) | assumption)) q24 hroom24
                                    have hr24 := Kd.C_take (m := ((ji10) : Int).toNat) hC24 (by omega)
                                    have hy24 : y135.length = ((ji10) : Int).toNat := (by rw [Ny135.out, List.length_take]; omega)
                                    rw [← Ny135.out] at hr24
                                    rw [← hy24] at hcut24
                                    have HR138 := Aside0.mk hr24
                                    have HC138 := Aside0.mk (show y135.length ≤ co21 from by omega)
                                    clear hr24 hC24 hroom24 hi024 hsz24
                                    have KY24 := Aside0.mk hy24
                                    clear hy24
                                    have KL24 := Aside0.mk (show ((ji10) : Int).toNat ≤ x5_2.length from by omega)
                                    replace q24 := eq_true q24
                                    have q25 : ((ji17) : Int) ≤ ((x5_2.length : Int) : Int) := of_decide_eq_true (by first | (with_reducible assumption) | assumption)
                                    obtain ⟨i025, hi025, _, hsz25, _⟩ := info_parts info3
                                    have hroom25 : x5_2.length ≤ co21 := (Kd.R_reads' HO_5.out).2.1
                                    have hC25 : Kd.C (Kd.int .i64) _ (some ad128) x5_2.length x5_2 := (Kd.R_reads' HO_5.out).2.2
                                    have q025 : (0 : Int) ≤ ((ji17) : Int) := of_decide_eq_true (by first | (with_reducible assumption) | assumption)
                                    have hcut25 := cut_from (P := Try.prog) 22 3 .i64 Try.underlying22 hi025 1 hsz25 (some ad128) x5_2.length co21 (ji17) q025 q25
                                    have hr25 := Kd.C_drop (m := ((ji17) : Int).toNat) (c := co21) hC25 (by omega) hroom25
                                    obtain ⟨A25, hA25⟩ : ∃ A1, A1 = (if co21 = ((ji17) : Int).toNat then (some ad128) else ((some ad128) : Option Addr).map (·.add (((ji17) : Int).toNat * 1))) := ⟨_, rfl⟩
                                    obtain ⟨c25, hc25⟩ : ∃ c1, c1 = co21 - ((ji17) : Int).toNat := ⟨_, rfl⟩
                                    have hy25 : y142.length = x5_2.length - ((ji17) : Int).toNat := (by rw [Ny142.out, List.length_drop] <;> omega)
                                    rw [show (x5_2).drop ((ji17) : Int).toNat = y142 from Ny142.out.symm] at hr25
                                    replace hr25 : Kd.C (Kd.int .i64) _ A25 y142.length y142 := (by rw [hA25]; exact hr25)
                                    rw [← hy25, ← hA25, ← hc25] at hcut25
                                    have HR145 := Aside0.mk hr25
                                    have HC145 := Aside0.mk (show y142.length ≤ c25 from by rw [hy25, hc25]; exact Nat.sub_le_sub_right hroom25 _)
                                    clear hr25 hC25 hroom25 hi025 hsz25 hc25
                                    have KY25 := Aside0.mk hy25
                                    have KA25 := Aside0.mk hA25
                                    clear hy25 hA25
                                    have KL25 := Aside0.mk (show ((ji17) : Int).toNat ≤ x5_2.length from by omega)
                                    replace q25 := eq_true q25
                                    refine start_ (n := 11) (S := fun w' => True) (ds := []) #[false, false, false, false, false, false, false, false, false, false, false] (by kernel_rfl) rfl rfl trivial (fun hHeld => ?_); refine with_tabW cadencyref18_Made.tab14 cadencyref18_Made.bits14 (fun HT_ HW_ => ?_)
                                    generalize w22.drew = w23 at HO_5 HO131 HB HR138 HR145 hHeld ⊢
                                    refine pure_ (i := 1) (N := some 49) (v := ?_) (a' := ?_) #[false, true, false, false, false, false, false, false, false, false, false] rfl rfl (any_of HT_.out (by kernel_rfl)) (fun _ _ _ h => h) (Or.inl ⟨by rfl, ?_⟩) ?_ ?_
                                    rotate_left
                                    · intro w'
                                      go_simp
                                      with_reducible rfl
                                    rotate_left
                                    · simp only [Act.put, List.setIfInBounds_toArray, List.set_cons_zero, List.set_cons_succ, i64_w, i32_w, (show wrap64 1 = 1 by unfold wrap64; omega)]
                                      rfl
                                    refine pure_ (i := 2) (N := some 50) (v := ?_) (a' := ?_) #[false, true, true, false, false, false, false, false, false, false, false] rfl rfl (any_of HT_.out (by kernel_rfl)) (fun _ _ _ h => h) (Or.inl ⟨by rfl, ?_⟩) ?_ ?_
                                    rotate_left
                                    · intro w'
                                      go_simp
                                      with_reducible rfl
                                    rotate_left
                                    · simp only [Act.put, List.setIfInBounds_toArray, List.set_cons_zero, List.set_cons_succ, i64_w, i32_w, (show wrap64 1 = 1 by unfold wrap64; omega)]
                                      rfl
                                    refine pure_ (i := 3) (N := some 51) (v := ?_) (a' := ?_) #[false, true, true, true, false, false, false, false, false, false, false] rfl rfl (any_of HT_.out (by kernel_rfl)) (fun _ _ _ h => h) (Or.inl ⟨by rfl, ?_⟩) ?_ ?_
                                    rotate_left
                                    · intro w'
                                      go_simp
                                      with_reducible rfl
                                    rotate_left
                                    · simp only [Act.put, List.setIfInBounds_toArray, List.set_cons_zero, List.set_cons_succ, i64_w, i32_w, (show wrap64 1 = 1 by unfold wrap64; omega)]
                                      rfl
                                    refine pure_ (i := 5) (N := some 53) (v := ?_) (a' := ?_) #[false, true, true, true, false, true, false, false, false, false, false] rfl rfl (any_of HT_.out (by kernel_rfl)) (fun _ _ _ h => h) (Or.inl ⟨by rfl, ?_⟩) ?_ ?_
                                    rotate_left
                                    · intro w'
                                      go_simp
                                      with_reducible rfl
                                    rotate_left
                                    · simp only [Act.put, List.setIfInBounds_toArray, List.set_cons_zero, List.set_cons_succ, i64_w, i32_w, (show wrap64 1 = 1 by unfold wrap64; omega)]
                                      rfl
                                    refine pure_ (i := 6) (N := some 54) (v := ?_) (a' := ?_) #[false, true, true, true, false, true, true, false, false, false, false] rfl rfl (any_of HT_.out (by kernel_rfl)) (fun _ _ _ h => h) (Or.inl ⟨by rfl, ?_⟩) ?_ ?_
                                    rotate_left
                                    · intro w'
                                      go_simp
                                      with_reducible rfl
                                    rotate_left
                                    · simp only [Act.put, List.setIfInBounds_toArray, List.set_cons_zero, List.set_cons_succ, i64_w, i32_w, (show wrap64 1 = 1 by unfold wrap64; omega)]
                                      rfl
                                    refine pure_ (i := 7) (N := some 55) (v := ?_) (a' := ?_) #[false, true, true, true, false, true, true, true, false, false, false] rfl rfl (any_of HT_.out (by kernel_rfl)) (fun _ _ _ h => h) (Or.inl ⟨by rfl, ?_⟩) ?_ ?_
                                    rotate_left
                                    · intro w'
                                      go_simp
                                      with_reducible rfl
                                    rotate_left
                                    · simp only [Act.put, List.setIfInBounds_toArray, List.set_cons_zero, List.set_cons_succ, i64_w, i32_w, (show wrap64 1 = 1 by unfold wrap64; omega)]
                                      rfl
                                    refine pure_ (i := 8) (N := some 56) (v := ?_) (a' := ?_) #[false, true, true, true, false, true, true, true, true, false, false] rfl rfl (any_of HT_.out (by kernel_rfl)) (fun _ _ _ h => h) (Or.inl ⟨by rfl, ?_⟩) ?_ ?_
                                    rotate_left
                                    · intro w'
                                      go_simp
                                      with_reducible rfl
                                    rotate_left
                                    · simp only [Act.put, List.setIfInBounds_toArray, List.set_cons_zero, List.set_cons_succ, i64_w, i32_w, (show wrap64 1 = 1 by unfold wrap64; omega)]
                                      rfl
                                    refine one_ (i := 0) (N := some 48) #[true, true, true, true, false, true, true, true, true, false, false] rfl rfl (one_of HT_.out (by kernel_rfl)) (by decide) (fun K hK => ?_)
                                    refine Kd.R_lit_step (Kd.int .i64) _ 3 ?hg (N := 48) ?hd (xs := ([] : List Int)) (inner := []) (ok := fun _ => True) (okp := fun _ => True) ?hr ?hp (fun _ hk => hk) trivial (Below.refl _ _) (Nat.le_refl _) (by simp) ?_; (case hd => rfl); (case hg => rfl); (case hr => first | (go_simp; done) | (go_simp; rfl)); (case hp => exact (Reps.none _ _))
                                    intro v133 w26 ho27 hb hg_ hnew_
                                    clear hg_ hnew_
                                    (first | rw [← Ny132.out] at ho27 | (simp only [Int.reduceToNat] at ho27; rw [← Ny132.out] at ho27))
                                    have n0_ := Aside0.mk (Kd.R_elder' (by (with_reducible repeat (first | apply Kd.R_alloc | apply Kd.R_drewN | apply Kd.R_drew)); exact HO_5.out) (Kd.R_base ho27) hb)
                                    have n1_ := Aside0.mk (Kd.R_elder' (by (with_reducible repeat (first | apply Kd.R_alloc | apply Kd.R_drewN | apply Kd.R_drew)); exact HO131.out) (Kd.R_base ho27) hb)
                                    have n2_ := Aside0.mk (Kd.R_lower (Kd.R_new' (Kd.R_new' ho27 (Kd.R_lt (by (with_reducible repeat (first | apply Kd.R_alloc | apply Kd.R_drewN | apply Kd.R_drew)); exact HO_5.out))) (Kd.R_lt (by (with_reducible repeat (first | apply Kd.R_alloc | apply Kd.R_drewN | apply Kd.R_drew)); exact HO131.out))) (below_size (by repeat (first | (with_reducible first | exact HB.out | apply below_alloc | apply pw_below_drewN | apply below_drew1) | exact HB.out))))
                                    have n3_ := Aside0.mk (Kd.C_below (by repeat (first | (with_reducible exact HR138.out) | (with_reducible refine Kd.C_alloc ?_ _) | (with_reducible refine Kd.C_drewN ?_ _) | (with_reducible refine Kd.C_drew ?_) | exact HR138.out)) hb)
                                    have n4_ := Aside0.mk (Kd.C_below (by repeat (first | (with_reducible exact HR145.out) | (with_reducible refine Kd.C_alloc ?_ _) | (with_reducible refine Kd.C_drewN ?_ _) | (with_reducible refine Kd.C_drew ?_) | exact HR145.out)) hb)
                                    have n5_ := Aside0.mk (below_step (by repeat (first | (with_reducible first | exact HB.out | apply below_alloc | apply pw_below_drewN | apply below_drew1) | exact HB.out)) hb)
                                    clear HO_5
                                    clear HO131
                                    clear HR138
                                    clear HR145
                                    clear HB
                                    have HO_5 := n0_
                                    have HO131 := n1_
                                    have HO134 := n2_
                                    have HR138 := n3_
                                    have HR145 := n4_
                                    have HB := n5_
                                    clear n0_ n1_ n2_ n3_ n4_ n5_
                                    clear hb ho27
                                    refine hK.out _ _ trivial (fun hHeld => ?_)
                                    clear hK K
                                    refine norm_ (a' := ?_) ?_ ?_
                                    rotate_left
                                    · show Act.put _ (some 48) _ = _
                                      simp only [Act.put, List.setIfInBounds_toArray, List.set_cons_zero, List.set_cons_succ, i64_w, i32_w, (show wrap64 1 = 1 by unfold wrap64; omega)]
                                      rfl
                                    refine one_ (i := 4) (N := some 52) #[true, true, true, true, true, true, true, true, true, false, false] rfl rfl (one_of HT_.out (by kernel_rfl)) (by decide) (fun K hK => ?_)
                                    refine Kd.R_append_rows_step (Kd.int .i64) (w0 := w) w.heap.size (by rfl) (.tmp 48) (.tmp 51) 22 3 (.int .i64 0) 8 rfl Try.underlying22 info3 rfl (by decide) (by omega) v133 y132 y135 _ _ _ (fun k_ => some k_ ≠ (.slice (some ad128) x5_2.length co21 : Value).ownBlock ∧ some k_ ≠ (v130 : Value).ownBlock) (fun _ => False) rfl rfl ?aO ?aR (fun _ _ h => h) (fun _ h => h.elim) ?aF ?aB ?aS ?aL ?_
                                    (case aR => repeat (first | exact (by repeat (first | (with_reducible exact HR138.out) | (with_reducible refine Kd.C_alloc ?_ _) | (with_reducible refine Kd.C_drewN ?_ _) | (with_reducible refine Kd.C_drew ?_) | exact HR138.out)) | (with_reducible refine Kd.C_alloc ?_ _) | (with_reducible refine Kd.C_drewN ?_ _) | (with_reducible refine Kd.C_drew ?_)))
                                    (case aB => exact (by repeat (first | (with_reducible first | exact HB.out | apply below_alloc | apply pw_below_drewN | apply below_drew1) | exact HB.out)))
                                    (case aF => exact (fun k_ hk => ⟨Kd.fresh' (Kd.R_lt (by (with_reducible repeat (first | apply Kd.R_alloc | apply Kd.R_drewN | apply Kd.R_drew)); exact HO_5.out)) k_ hk, Kd.fresh' (Kd.R_lt (by (with_reducible repeat (first | apply Kd.R_alloc | apply Kd.R_drewN | apply Kd.R_drew)); exact HO131.out)) k_ hk⟩))
                                    (case aO => exact (by (with_reducible repeat (first | apply Kd.R_alloc | apply Kd.R_drewN | apply Kd.R_drew)); exact Kd.R_mono HO134.out (fun _ hk => ⟨hk.1.2, hk.2⟩)))
                                    (case aS => exact (below_size (by repeat (first | (with_reducible first | exact HB.out | apply below_alloc | apply pw_below_drewN | apply below_drew1) | exact HB.out))))
                                    (case aL => have := LMc16.out; omega)
                                    intro v140 w28 ho hb hg hat
                                    rw [← Ny139.out] at ho
                                    have n0_ := Aside0.mk (Kd.R_after (ok := (fun k_ => some k_ ≠ (v130 : Value).ownBlock)) (by (with_reducible repeat (first | apply Kd.R_alloc | apply Kd.R_drewN | apply Kd.R_drew)); exact Kd.R_mono HO_5.out (fun _ hk => ⟨hk.1.2, hk.2⟩)) hg hat)
                                    have n1_ := Aside0.mk (Kd.R_after (ok := (fun k_ => some k_ ≠ (.slice (some ad128) x5_2.length co21 : Value).ownBlock)) (by (with_reducible repeat (first | apply Kd.R_alloc | apply Kd.R_drewN | apply Kd.R_drew)); exact HO131.out) hg hat)
                                    have n2_ := Aside0.mk (hb)
                                    have n3_ := Aside0.mk ((show Kd.C (Kd.int .i64) w28 (some ad128) y135.length y135 from by rw [Ny135.out]; exact Kd.C_take (m := ((ji10) : Int).toNat) ((Kd.R_reads' (Kd.R_after (ok := (fun k_ => some k_ ≠ (v130 : Value).ownBlock)) (by (with_reducible repeat (first | apply Kd.R_alloc | apply Kd.R_drewN | apply Kd.R_drew)); exact Kd.R_mono HO_5.out (fun _ hk => ⟨hk.1.2, hk.2⟩)) hg hat)).2.2) KL24.out))
                                    have n4_ := Aside0.mk ((show Kd.C (Kd.int .i64) w28 A25 y142.length y142 from by rw [Ny142.out, KA25.out]; exact Kd.C_drop (m := ((ji17) : Int).toNat) (c := co21) ((Kd.R_reads' (Kd.R_after (ok := (fun k_ => some k_ ≠ (v130 : Value).ownBlock)) (by (with_reducible repeat (first | apply Kd.R_alloc | apply Kd.R_drewN | apply Kd.R_drew)); exact Kd.R_mono HO_5.out (fun _ hk => ⟨hk.1.2, hk.2⟩)) hg hat)).2.2) KL25.out ((Kd.R_reads' (Kd.R_after (ok := (fun k_ => some k_ ≠ (v130 : Value).ownBlock)) (by (with_reducible repeat (first | apply Kd.R_alloc | apply Kd.R_drewN | apply Kd.R_drew)); exact Kd.R_mono HO_5.out (fun _ hk => ⟨hk.1.2, hk.2⟩)) hg hat)).2.1)))
                                    have n5_ := Aside0.mk (ho)
                                    clear HO_5
                                    clear HO131
                                    clear HB
                                    clear HR138
                                    clear HR145
                                    clear HO134
                                    have HO_5 := n0_
                                    have HO131 := n1_
                                    have HB := n2_
                                    have HR138 := n3_
                                    have HR145 := n4_
                                    have HO141 := n5_
                                    clear n0_ n1_ n2_ n3_ n4_ n5_
                                    clear ho hb hg hat
                                    refine hK.out _ _ trivial (fun hHeld => ?_)
                                    clear hK K
                                    refine norm_ (a' := ?_) ?_ ?_
                                    rotate_left
                                    · show Act.put _ (some 52) _ = _
                                      simp only [Act.put, List.setIfInBounds_toArray, List.set_cons_zero, List.set_cons_succ, i64_w, i32_w, (show wrap64 1 = 1 by unfold wrap64; omega)]
                                      rfl
                                    refine one_ (i := 9) (N := some 57) #[true, true, true, true, true, true, true, true, true, true, false] rfl rfl (one_of HT_.out (by kernel_rfl)) (by decide) (fun K hK => ?_)
                                    refine Kd.R_append_rows_step (Kd.int .i64) (w0 := w) w.heap.size (by rfl) (.tmp 52) (.tmp 56) 22 3 (.int .i64 0) 8 rfl Try.underlying22 info3 rfl (by decide) (by omega) v140 y139 y142 _ _ _ (fun k_ => some k_ ≠ (.slice (some ad128) x5_2.length co21 : Value).ownBlock ∧ some k_ ≠ (v130 : Value).ownBlock) (fun _ => False) rfl rfl ?aO ?aR (fun _ _ h => h) (fun _ h => h.elim) ?aF ?aB ?aS ?aL ?_
                                    (case aR => repeat (first | exact (by repeat (first | (with_reducible exact HR145.out) | (with_reducible refine Kd.C_alloc ?_ _) | (with_reducible refine Kd.C_drewN ?_ _) | (with_reducible refine Kd.C_drew ?_) | exact HR145.out)) | (with_reducible refine Kd.C_alloc ?_ _) | (with_reducible refine Kd.C_drewN ?_ _) | (with_reducible refine Kd.C_drew ?_)))
                                    (case aB => exact (by repeat (first | (with_reducible first | exact HB.out | apply below_alloc | apply pw_below_drewN | apply below_drew1) | exact HB.out)))
                                    (case aF => exact (fun k_ hk => ⟨Kd.fresh' (Kd.R_lt (by (with_reducible repeat (first | apply Kd.R_alloc | apply Kd.R_drewN | apply Kd.R_drew)); exact HO_5.out)) k_ hk, Kd.fresh' (Kd.R_lt (by (with_reducible repeat (first | apply Kd.R_alloc | apply Kd.R_drewN | apply Kd.R_drew)); exact HO131.out)) k_ hk⟩))
                                    (case aO => exact (by (with_reducible repeat (first | apply Kd.R_alloc | apply Kd.R_drewN | apply Kd.R_drew)); exact HO141.out))
                                    (case aS => exact (below_size (by repeat (first | (with_reducible first | exact HB.out | apply below_alloc | apply pw_below_drewN | apply below_drew1) | exact HB.out))))
                                    (case aL => have := LMc20.out; omega)
                                    intro v147 w29 ho hb hg hat
                                    rw [← Ny146.out] at ho
                                    have n0_ := Aside0.mk (Kd.R_after (ok := (fun k_ => some k_ ≠ (v130 : Value).ownBlock)) (by (with_reducible repeat (first | apply Kd.R_alloc | apply Kd.R_drewN | apply Kd.R_drew)); exact HO_5.out) hg hat)
                                    have n1_ := Aside0.mk (Kd.R_after (ok := (fun k_ => some k_ ≠ (.slice (some ad128) x5_2.length co21 : Value).ownBlock)) (by (with_reducible repeat (first | apply Kd.R_alloc | apply Kd.R_drewN | apply Kd.R_drew)); exact HO131.out) hg hat)
                                    have n2_ := Aside0.mk (hb)
                                    have n3_ := Aside0.mk ((show Kd.C (Kd.int .i64) w29 (some ad128) y135.length y135 from by rw [Ny135.out]; exact Kd.C_take (m := ((ji10) : Int).toNat) ((Kd.R_reads' (Kd.R_after (ok := (fun k_ => some k_ ≠ (v130 : Value).ownBlock)) (by (with_reducible repeat (first | apply Kd.R_alloc | apply Kd.R_drewN | apply Kd.R_drew)); exact HO_5.out) hg hat)).2.2) KL24.out))
                                    have n4_ := Aside0.mk ((show Kd.C (Kd.int .i64) w29 A25 y142.length y142 from by rw [Ny142.out, KA25.out]; exact Kd.C_drop (m := ((ji17) : Int).toNat) (c := co21) ((Kd.R_reads' (Kd.R_after (ok := (fun k_ => some k_ ≠ (v130 : Value).ownBlock)) (by (with_reducible repeat (first | apply Kd.R_alloc | apply Kd.R_drewN | apply Kd.R_drew)); exact HO_5.out) hg hat)).2.2) KL25.out ((Kd.R_reads' (Kd.R_after (ok := (fun k_ => some k_ ≠ (v130 : Value).ownBlock)) (by (with_reducible repeat (first | apply Kd.R_alloc | apply Kd.R_drewN | apply Kd.R_drew)); exact HO_5.out) hg hat)).2.1)))
                                    have n5_ := Aside0.mk (ho)
                                    clear HO_5
                                    clear HO131
                                    clear HB
                                    clear HR138
                                    clear HR145
                                    clear HO141
                                    have HO_5 := n0_
                                    have HO131 := n1_
                                    have HB := n2_
                                    have HR138 := n3_
                                    have HR145 := n4_
                                    have HO148 := n5_
                                    clear n0_ n1_ n2_ n3_ n4_ n5_
                                    clear ho hb hg hat
                                    refine hK.out _ _ trivial (fun hHeld => ?_)
                                    clear hK K
                                    refine norm_ (a' := ?_) ?_ ?_
                                    rotate_left
                                    · show Act.put _ (some 57) _ = _
                                      simp only [Act.put, List.setIfInBounds_toArray, List.set_cons_zero, List.set_cons_succ, i64_w, i32_w, (show wrap64 1 = 1 by unfold wrap64; omega)]
                                      rfl
                                    refine pure_ (i := 10) (N := some 5) (v := ?_) (a' := ?_) #[true, true, true, true, true, true, true, true, true, true, true] rfl rfl (any_of HT_.out (by kernel_rfl)) (fun _ _ _ h => h) (Or.inl ⟨by rfl, ?_⟩) ?_ ?_
                                    rotate_left
                                    · intro w'
                                      go_simp
                                      with_reducible rfl
                                    rotate_left
                                    · simp only [Act.put, List.setIfInBounds_toArray, List.set_cons_zero, List.set_cons_succ, i64_w, i32_w, (show wrap64 1 = 1 by unfold wrap64; omega)]
                                      rfl
                                    refine done_ (done_of HT_.out (by kernel_rfl)) ?_
                                    try go_wp2
                                    go_roundg k2
                                    case measure => have := HK1.out; have := HK2.out; omega
                                    case rel => exact ⟨(y146), (y129), (wrap64 (x8_2 + 1)), (by first | rfl | (simp; done) | (simp [*]; done)), H', ⟨by have := HK1.out; have := HK2.out; omega⟩, ⟨by (with_reducible repeat (first | apply Kd.R_alloc | apply Kd.R_drewN | apply Kd.R_drew)); exact Kd.R_mono HO148.out (fun _ hk => hk.2)⟩, ⟨by (with_reducible repeat (first | apply Kd.R_alloc | apply Kd.R_drewN | apply Kd.R_drew)); exact Kd.R_mono HO131.out (fun _ hk => hk.2)⟩, ⟨by repeat (first | (with_reducible first | exact HB.out | apply below_alloc | apply pw_below_drewN | apply below_drew1) | exact HB.out)⟩⟩
                                  · rw [if_neg c20] at H
                                    exact absurd H (by simp)
                                · rw [if_neg c19] at H
                                  exact absurd H (by simp)
                              · rw [if_neg c18] at H
                                exact absurd H (by simp)
                            · rw [if_neg c16] at H
                              exact absurd H (by simp)
                          · rw [if_neg c15] at H
                            exact absurd H (by simp)
                        · rw [if_neg c13] at H
                          exact absurd H (by simp)
                      · rw [if_neg c12] at H
                        exact absurd H (by simp)
                    · rw [if_neg c11] at H
                      exact absurd H (by simp)
                · rw [if_neg c8] at H
                  exact absurd H (by simp)
              · rw [if_neg c7] at H
                have c7b0 : decide (x8_2 < (l1.length : Int)) = false := decide_eq_false c7
                clear c7
                by_cases c30 : 0 < (x5_2.length : Int)
                · rw [if_pos c30] at H
                  have c30b0 : decide (0 < (x5_2.length : Int)) = true := decide_eq_true c30
                  have c30b1 : decide (0 < x5_2.length) = true := decide_eq_true (by omega)
                  clear c30
                  by_cases c31 : x7_2.length < 17592186044416
                  · rw [if_pos c31] at H
                    have LMc31 := Aside0.mk c31
                    clear c31
                    obtain ⟨y150, hy150⟩ : ∃ y_ : List Int, y_ = (x7_2 ++ [rd x5_2 0]) := ⟨_, rfl⟩
                    replace H : ((some (([] : List Int) : List Int)).bind fun y153 => (if 0 ≤ (x5_2.length : Int) then ((some (x5_2.take 0 : List Int)).bind fun y156 => (if y153.length + y156.length < 17592186044416 then ((some (y153 ++ y156 : List Int)).bind fun y160 => (if 1 ≤ (x5_2.length : Int) then ((some (x5_2.drop 1 : List Int)).bind fun y163 => (if y160.length + y163.length < 17592186044416 then (cadencyref18_Made.l1 k2 a0 l1 (y160 ++ y163) y150 (wrap64 (x8_2 + 1))) else (none))) else (none))) else (none))) else (none))) = some r := by first | (rw [hy150]; with_reducible exact H) | (have H2_ := (Option.bind_some _ _).symm.trans H; rw [hy150]; with_reducible exact H2_) | (have H2_ := (Option.bind_some _ _).symm.trans H; with_reducible exact H2_) | with_reducible exact H | (rw [hy150]; exact H) | exact H
                    have Ny150 := Aside0.mk hy150
                    clear hy150
                    obtain ⟨y153, hy153⟩ : ∃ y_ : List Int, y_ = (([] : List Int)) := ⟨_, rfl⟩
                    replace H : (if 0 ≤ (x5_2.length : Int) then ((some (x5_2.take 0 : List Int)).bind fun y156 => (if y153.length + y156.length < 17592186044416 then ((some (y153 ++ y156 : List Int)).bind fun y160 => (if 1 ≤ (x5_2.length : Int) then ((some (x5_2.drop 1 : List Int)).bind fun y163 => (if y160.length + y163.length < 17592186044416 then (cadencyref18_Made.l1 k2 a0 l1 (y160 ++ y163) y150 (wrap64 (x8_2 + 1))) else (none))) else (none))) else (none))) else (none)) = some r := by first | (rw [hy153]; with_reducible exact H) | (have H2_ := (Option.bind_some _ _).symm.trans H; rw [hy153]; with_reducible exact H2_) | (have H2_ := (Option.bind_some _ _).symm.trans H; with_reducible exact H2_) | with_reducible exact H | (rw [hy153]; exact H) | exact H
                    have Ny153 := Aside0.mk hy153
                    clear hy153
                    by_cases c32 : 0 ≤ (x5_2.length : Int)
                    · rw [if_pos c32] at H
                      have c32b0 := eq_true c32
                      have c32b1 : decide (0 ≤ (x5_2.length : Int)) = true := decide_eq_true c32
                      clear c32
                      obtain ⟨y156, hy156⟩ : ∃ y_ : List Int, y_ = (x5_2.take 0) := ⟨_, rfl⟩
                      replace H : (if y153.length + y156.length < 17592186044416 then ((some (y153 ++ y156 : List Int)).bind fun y160 => (if 1 ≤ (x5_2.length : Int) then ((some (x5_2.drop 1 : List Int)).bind fun y163 => (if y160.length + y163.length < 17592186044416 then (cadencyref18_Made.l1 k2 a0 l1 (y160 ++ y163) y150 (wrap64 (x8_2 + 1))) else (none))) else (none))) else (none)) = some r := by first | (rw [hy156]; with_reducible exact H) | (have H2_ := (Option.bind_some _ _).symm.trans H; rw [hy156]; with_reducible exact H2_) | (have H2_ := (Option.bind_some _ _).symm.trans H; with_reducible exact H2_) | with_reducible exact H | (rw [hy156]; exact H) | exact H
                      have Ny156 := Aside0.mk hy156
                      clear hy156
                      by_cases c33 : y153.length + y156.length < 17592186044416
                      · rw [if_pos c33] at H
                        have LMc33 := Aside0.mk c33
                        clear c33
                        obtain ⟨y160, hy160⟩ : ∃ y_ : List Int, y_ = (y153 ++ y156) := ⟨_, rfl⟩
                        replace H : (if 1 ≤ (x5_2.length : Int) then ((some (x5_2.drop 1 : List Int)).bind fun y163 => (if y160.length + y163.length < 17592186044416 then (cadencyref18_Made.l1 k2 a0 l1 (y160 ++ y163) y150 (wrap64 (x8_2 + 1))) else (none))) else (none)) = some r := by first | (rw [hy160]; with_reducible exact H) | (have H2_ := (Option.bind_some _ _).symm.trans H; rw [hy160]; with_reducible exact H2_) | (have H2_ := (Option.bind_some _ _).symm.trans H; with_reducible exact H2_) | with_reducible exact H | (rw [hy160]; exact H) | exact H
                        have Ny160 := Aside0.mk hy160
                        clear hy160
                        by_cases c34 : 1 ≤ (x5_2.length : Int)
                        · rw [if_pos c34] at H
                          have c34b0 := eq_true c34
                          have c34b1 : decide (1 ≤ (x5_2.length : Int)) = true := decide_eq_true c34
                          clear c34
                          obtain ⟨y163, hy163⟩ : ∃ y_ : List Int, y_ = (x5_2.drop 1) := ⟨_, rfl⟩
                          replace H : (if y160.length + y163.length < 17592186044416 then (cadencyref18_Made.l1 k2 a0 l1 (y160 ++ y163) y150 (wrap64 (x8_2 + 1))) else (none)) = some r := by first | (rw [hy163]; with_reducible exact H) | (have H2_ := (Option.bind_some _ _).symm.trans H; rw [hy163]; with_reducible exact H2_) | (have H2_ := (Option.bind_some _ _).symm.trans H; with_reducible exact H2_) | with_reducible exact H | (rw [hy163]; exact H) | exact H
                          have Ny163 := Aside0.mk hy163
                          clear hy163
                          by_cases c35 : y160.length + y163.length < 17592186044416
                          · rw [if_pos c35] at H
                            have LMc35 := Aside0.mk c35
                            clear c35
                            obtain ⟨y167, hy167⟩ : ∃ y_ : List Int, y_ = (y160 ++ y163) := ⟨_, rfl⟩
                            replace H : (cadencyref18_Made.l1 k2 a0 l1 y167 y150 (wrap64 (x8_2 + 1))) = some r := by first | (rw [hy167]; with_reducible exact H) | (have H2_ := (Option.bind_some _ _).symm.trans H; rw [hy167]; with_reducible exact H2_) | (have H2_ := (Option.bind_some _ _).symm.trans H; with_reducible exact H2_) | with_reducible exact H | (rw [hy167]; exact H) | exact H
                            have Ny167 := Aside0.mk hy167
                            clear hy167
                            have H' := Aside0.mk H
                            clear H
                            obtain ⟨Ao36, co36, eo36⟩ := Kd.R_slice HO_5.out
                            subst eo36
                            have p149 : 0 ≤ (0 : Int) := (by omega)
                            have q149 : 0 < (x5_2.length : Int) := of_decide_eq_true (by first | (with_reducible assumption) | assumption)
                            obtain ⟨ad149, e149, hx149_0⟩ := Kd.at_int (Kd.R_reads' HO_5.out).2.2 0 p149 q149
                            cases e149
                            have qi149 : (0 < x5_2.length) = True := eq_true (by omega)
                            (try rw [show ((0 : Int)).toNat = 0 from rfl] at hx149_0)
                            (try rw [Addr.add_zero'] at hx149_0)
                            replace p149 := eq_true p149
                            replace q149 := eq_true q149
                            try go_wp2_with (first | ((with_reducible refine gate_builtin (b := .append) (xs := #[.tmp 41, .tmp 46]) rfl ?_); at_builtin; refine Kd.R_append (Kd.int .i64) (w0 := w) w.heap.size rfl (.tmp 41) (.tmp 46) 22 3 (.int .i64 0) 8 rfl Try.underlying22 info3 rfl (by decide) (by omega) u7 x7_2 (rd x5_2 0) [.int .i64 (rd x5_2 0)] (fun k_ => some k_ ≠ (.slice (some ad149) x5_2.length co36 : Value).ownBlock) (fun _ => False) rfl rfl ?aP (fun _ hk => hk.elim) ?aF ?aO ?aB ?aS ?aL ?_; (case aP => exact rfl); (case aB => exact (by repeat (first | (with_reducible first | exact HB.out | apply below_alloc | apply pw_below_drewN | apply below_drew1) | exact HB.out))); (case aF => exact (fun k_ hk => Kd.fresh' (Kd.R_lt (by (with_reducible repeat (first | apply Kd.R_alloc | apply Kd.R_drewN | apply Kd.R_drew)); exact HO_5.out)) k_ hk)); (case aO => exact (by (with_reducible repeat (first | apply Kd.R_alloc | apply Kd.R_drewN | apply Kd.R_drew)); exact HO_7.out)); (case aS => exact (below_size (by repeat (first | (with_reducible first | exact HB.out | apply below_alloc | apply pw_below_drewN | apply below_drew1) | exact HB.out)))); (case aL => have := LMc31.out; omega); intro v151 w37 ho hb hg hat; rw [← Ny150.out] at ho; have n0_ := Aside0.mk (Kd.R_after (ok := (fun _ => True)) (by (with_reducible repeat (first | apply Kd.R_alloc | apply Kd.R_drewN | apply Kd.R_drew)); exact Kd.R_mono HO_5.out (fun _ hk => ⟨trivial, hk⟩)) hg hat); have n1_ := Aside0.mk (hb); have n2_ := Aside0.mk (ho); clear HO_5; clear HB; clear HO_7; have HO_5 := n0_; have HB := n1_; have HO152 := n2_; clear n0_ n1_ n2_; clear ho hb hg hat))
                            have n0_ := Aside0.mk (Kd.R_drew HO_5.out)
                            have n1_ := Aside0.mk (Kd.R_drew HO152.out)
                            have n2_ := Aside0.mk (below_drew1 HB.out)
                            clear HO_5
                            clear HO152
                            clear HB
                            have HO_5 := n0_
                            have HO152 := n1_
                            have HB := n2_
                            clear n0_ n1_ n2_
                            have q39 : (0 : Int) ≤ ((x5_2.length : Int) : Int) := of_decide_eq_true (by first | (with_reducible assumption) | assumption)
                            obtain ⟨i039, hi039, _, hsz39, _⟩ := info_parts info3
                            have hroom39 : x5_2.length ≤ co36 := (Kd.R_reads' HO_5.out).2.1
                            have hC39 : Kd.C (Kd.int .i64) _ (some ad149) x5_2.length x5_2 := (Kd.R_reads' HO_5.out).2.2
                            have hcut39 := cut_to (P := Try.prog) 22 3 .i64 Try.underlying22 hi039 (some ad149) x5_2.length co36 0 (by omega) q39 hroom39
                            have hr39 := Kd.C_take (m := 0) hC39 (by omega)
                            have hy39 : y156.length = (0 : Int).toNat := (by rw [Ny156.out, List.length_take]; omega)
                            rw [← Ny156.out] at hr39
                            rw [← hy39] at hcut39
                            have HR159 := Aside0.mk hr39
                            have HC159 := Aside0.mk (show y156.length ≤ co36 from by omega)
                            clear hr39 hC39 hroom39 hi039 hsz39
                            have KY39 := Aside0.mk hy39
                            clear hy39
                            have KL39 := Aside0.mk (show 0 ≤ x5_2.length from by omega)
                            replace q39 := eq_true q39
                            have q40 : (1 : Int) ≤ ((x5_2.length : Int) : Int) := of_decide_eq_true (by first | (with_reducible assumption) | assumption)
                            obtain ⟨i040, hi040, _, hsz40, _⟩ := info_parts info3
                            have hroom40 : x5_2.length ≤ co36 := (Kd.R_reads' HO_5.out).2.1
                            have hC40 : Kd.C (Kd.int .i64) _ (some ad149) x5_2.length x5_2 := (Kd.R_reads' HO_5.out).2.2
                            have hcut40 := cut_from (P := Try.prog) 22 3 .i64 Try.underlying22 hi040 1 hsz40 (some ad149) x5_2.length co36 1 (by omega) q40
                            have hr40 := Kd.C_drop (m := (1 : Int).toNat) (c := co36) hC40 (by omega) hroom40
                            obtain ⟨A40, hA40⟩ : ∃ A1, A1 = (if co36 = (1 : Int).toNat then (some ad149) else ((some ad149) : Option Addr).map (·.add ((1 : Int).toNat * 1))) := ⟨_, rfl⟩
                            obtain ⟨c40, hc40⟩ : ∃ c1, c1 = co36 - (1 : Int).toNat := ⟨_, rfl⟩
                            have hy40 : y163.length = x5_2.length - (1 : Int).toNat := (by rw [Ny163.out, List.length_drop] <;> omega)
                            rw [show (x5_2).drop (1 : Int).toNat = y163 from Ny163.out.symm] at hr40
                            replace hr40 : Kd.C (Kd.int .i64) _ A40 y163.length y163 := (by rw [hA40]; exact hr40)
                            rw [← hy40, ← hA40, ← hc40] at hcut40
                            have HR166 := Aside0.mk hr40
                            have HC166 := Aside0.mk (show y163.length ≤ c40 from by rw [hy40, hc40]; exact Nat.sub_le_sub_right hroom40 _)
                            clear hr40 hC40 hroom40 hi040 hsz40 hc40
                            have KY40 := Aside0.mk hy40
                            have KA40 := Aside0.mk hA40
                            clear hy40 hA40
                            have KL40 := Aside0.mk (show 1 ≤ x5_2.length from by omega)
                            replace q40 := eq_true q40
                            refine start_ (n := 11) (S := fun w' => True) (ds := []) #[false, false, false, false, false, false, false, false, false, false, false] (by kernel_rfl) rfl rfl trivial (fun hHeld => ?_); refine with_tabW cadencyref18_Made.tab14 cadencyref18_Made.bits14 (fun HT_ HW_ => ?_)
                            generalize w37.drew = w38 at HO_5 HO152 HB HR159 HR166 hHeld ⊢
                            refine pure_ (i := 1) (N := some 49) (v := ?_) (a' := ?_) #[false, true, false, false, false, false, false, false, false, false, false] rfl rfl (any_of HT_.out (by kernel_rfl)) (fun _ _ _ h => h) (Or.inl ⟨by rfl, ?_⟩) ?_ ?_
                            rotate_left
                            · intro w'
                              go_simp
                              with_reducible rfl
                            rotate_left
                            · simp only [Act.put, List.setIfInBounds_toArray, List.set_cons_zero, List.set_cons_succ, i64_w, i32_w, (show wrap64 1 = 1 by unfold wrap64; omega)]
                              rfl
                            refine pure_ (i := 2) (N := some 50) (v := ?_) (a' := ?_) #[false, true, true, false, false, false, false, false, false, false, false] rfl rfl (any_of HT_.out (by kernel_rfl)) (fun _ _ _ h => h) (Or.inl ⟨by rfl, ?_⟩) ?_ ?_
                            rotate_left
                            · intro w'
                              go_simp
                              with_reducible rfl
                            rotate_left
                            · simp only [Act.put, List.setIfInBounds_toArray, List.set_cons_zero, List.set_cons_succ, i64_w, i32_w, (show wrap64 1 = 1 by unfold wrap64; omega)]
                              rfl
                            refine pure_ (i := 3) (N := some 51) (v := ?_) (a' := ?_) #[false, true, true, true, false, false, false, false, false, false, false] rfl rfl (any_of HT_.out (by kernel_rfl)) (fun _ _ _ h => h) (Or.inl ⟨by rfl, ?_⟩) ?_ ?_
                            rotate_left
                            · intro w'
                              go_simp
                              with_reducible rfl
                            rotate_left
                            · simp only [Act.put, List.setIfInBounds_toArray, List.set_cons_zero, List.set_cons_succ, i64_w, i32_w, (show wrap64 1 = 1 by unfold wrap64; omega)]
                              rfl
                            refine pure_ (i := 5) (N := some 53) (v := ?_) (a' := ?_) #[false, true, true, true, false, true, false, false, false, false, false] rfl rfl (any_of HT_.out (by kernel_rfl)) (fun _ _ _ h => h) (Or.inl ⟨by rfl, ?_⟩) ?_ ?_
                            rotate_left
                            · intro w'
                              go_simp
                              with_reducible rfl
                            rotate_left
                            · simp only [Act.put, List.setIfInBounds_toArray, List.set_cons_zero, List.set_cons_succ, i64_w, i32_w, (show wrap64 1 = 1 by unfold wrap64; omega)]
                              rfl
                            refine pure_ (i := 6) (N := some 54) (v := ?_) (a' := ?_) #[false, true, true, true, false, true, true, false, false, false, false] rfl rfl (any_of HT_.out (by kernel_rfl)) (fun _ _ _ h => h) (Or.inl ⟨by rfl, ?_⟩) ?_ ?_
                            rotate_left
                            · intro w'
                              go_simp
                              with_reducible rfl
                            rotate_left
                            · simp only [Act.put, List.setIfInBounds_toArray, List.set_cons_zero, List.set_cons_succ, i64_w, i32_w, (show wrap64 1 = 1 by unfold wrap64; omega)]
                              rfl
                            refine pure_ (i := 7) (N := some 55) (v := ?_) (a' := ?_) #[false, true, true, true, false, true, true, true, false, false, false] rfl rfl (any_of HT_.out (by kernel_rfl)) (fun _ _ _ h => h) (Or.inl ⟨by rfl, ?_⟩) ?_ ?_
                            rotate_left
                            · intro w'
                              go_simp
                              with_reducible rfl
                            rotate_left
                            · simp only [Act.put, List.setIfInBounds_toArray, List.set_cons_zero, List.set_cons_succ, i64_w, i32_w, (show wrap64 1 = 1 by unfold wrap64; omega)]
                              rfl
                            refine pure_ (i := 8) (N := some 56) (v := ?_) (a' := ?_) #[false, true, true, true, false, true, true, true, true, false, false] rfl rfl (any_of HT_.out (by kernel_rfl)) (fun _ _ _ h => h) (Or.inl ⟨by rfl, ?_⟩) ?_ ?_
                            rotate_left
                            · intro w'
                              go_simp
                              with_reducible rfl
                            rotate_left
                            · simp only [Act.put, List.setIfInBounds_toArray, List.set_cons_zero, List.set_cons_succ, i64_w, i32_w, (show wrap64 1 = 1 by unfold wrap64; omega)]
                              rfl
                            refine one_ (i := 0) (N := some 48) #[true, true, true, true, false, true, true, true, true, false, false] rfl rfl (one_of HT_.out (by kernel_rfl)) (by decide) (fun K hK => ?_)
                            refine Kd.R_lit_step (Kd.int .i64) _ 3 ?hg (N := 48) ?hd (xs := ([] : List Int)) (inner := []) (ok := fun _ => True) (okp := fun _ => True) ?hr ?hp (fun _ hk => hk) trivial (Below.refl _ _) (Nat.le_refl _) (by simp) ?_; (case hd => rfl); (case hg => rfl); (case hr => first | (go_simp; done) | (go_simp; rfl)); (case hp => exact (Reps.none _ _))
                            intro v154 w41 ho42 hb hg_ hnew_
                            clear hg_ hnew_
                            (first | rw [← Ny153.out] at ho42 | (simp only [Int.reduceToNat] at ho42; rw [← Ny153.out] at ho42))
                            have n0_ := Aside0.mk (Kd.R_elder' (by (with_reducible repeat (first | apply Kd.R_alloc | apply Kd.R_drewN | apply Kd.R_drew)); exact HO_5.out) (Kd.R_base ho42) hb)
                            have n1_ := Aside0.mk (Kd.R_elder' (by (with_reducible repeat (first | apply Kd.R_alloc | apply Kd.R_drewN | apply Kd.R_drew)); exact HO152.out) (Kd.R_base ho42) hb)
                            have n2_ := Aside0.mk (Kd.R_lower (Kd.R_new' (Kd.R_new' ho42 (Kd.R_lt (by (with_reducible repeat (first | apply Kd.R_alloc | apply Kd.R_drewN | apply Kd.R_drew)); exact HO_5.out))) (Kd.R_lt (by (with_reducible repeat (first | apply Kd.R_alloc | apply Kd.R_drewN | apply Kd.R_drew)); exact HO152.out))) (below_size (by repeat (first | (with_reducible first | exact HB.out | apply below_alloc | apply pw_below_drewN | apply below_drew1) | exact HB.out))))
                            have n3_ := Aside0.mk (Kd.C_below (by repeat (first | (with_reducible exact HR159.out) | (with_reducible refine Kd.C_alloc ?_ _) | (with_reducible refine Kd.C_drewN ?_ _) | (with_reducible refine Kd.C_drew ?_) | exact HR159.out)) hb)
                            have n4_ := Aside0.mk (Kd.C_below (by repeat (first | (with_reducible exact HR166.out) | (with_reducible refine Kd.C_alloc ?_ _) | (with_reducible refine Kd.C_drewN ?_ _) | (with_reducible refine Kd.C_drew ?_) | exact HR166.out)) hb)
                            have n5_ := Aside0.mk (below_step (by repeat (first | (with_reducible first | exact HB.out | apply below_alloc | apply pw_below_drewN | apply below_drew1) | exact HB.out)) hb)
                            clear HO_5
                            clear HO152
                            clear HR159
                            clear HR166
                            clear HB
                            have HO_5 := n0_
                            have HO152 := n1_
                            have HO155 := n2_
                            have HR159 := n3_
                            have HR166 := n4_
                            have HB := n5_
                            clear n0_ n1_ n2_ n3_ n4_ n5_
                            clear hb ho42
                            refine hK.out _ _ trivial (fun hHeld => ?_)
                            clear hK K
                            refine norm_ (a' := ?_) ?_ ?_
                            rotate_left
                            · show Act.put _ (some 48) _ = _
                              simp only [Act.put, List.setIfInBounds_toArray, List.set_cons_zero, List.set_cons_succ, i64_w, i32_w, (show wrap64 1 = 1 by unfold wrap64; omega)]
                              rfl
                            refine one_ (i := 4) (N := some 52) #[true, true, true, true, true, true, true, true, true, false, false] rfl rfl (one_of HT_.out (by kernel_rfl)) (by decide) (fun K hK => ?_)
                            refine Kd.R_append_rows_step (Kd.int .i64) (w0 := w) w.heap.size (by rfl) (.tmp 48) (.tmp 51) 22 3 (.int .i64 0) 8 rfl Try.underlying22 info3 rfl (by decide) (by omega) v154 y153 y156 _ _ _ (fun k_ => some k_ ≠ (.slice (some ad149) x5_2.length co36 : Value).ownBlock ∧ some k_ ≠ (v151 : Value).ownBlock) (fun _ => False) rfl rfl ?aO ?aR (fun _ _ h => h) (fun _ h => h.elim) ?aF ?aB ?aS ?aL ?_
                            (case aR => repeat (first | exact (by repeat (first | (with_reducible exact HR159.out) | (with_reducible refine Kd.C_alloc ?_ _) | (with_reducible refine Kd.C_drewN ?_ _) | (with_reducible refine Kd.C_drew ?_) | exact HR159.out)) | (with_reducible refine Kd.C_alloc ?_ _) | (with_reducible refine Kd.C_drewN ?_ _) | (with_reducible refine Kd.C_drew ?_)))
                            (case aB => exact (by repeat (first | (with_reducible first | exact HB.out | apply below_alloc | apply pw_below_drewN | apply below_drew1) | exact HB.out)))
                            (case aF => exact (fun k_ hk => ⟨Kd.fresh' (Kd.R_lt (by (with_reducible repeat (first | apply Kd.R_alloc | apply Kd.R_drewN | apply Kd.R_drew)); exact HO_5.out)) k_ hk, Kd.fresh' (Kd.R_lt (by (with_reducible repeat (first | apply Kd.R_alloc | apply Kd.R_drewN | apply Kd.R_drew)); exact HO152.out)) k_ hk⟩))
                            (case aO => exact (by (with_reducible repeat (first | apply Kd.R_alloc | apply Kd.R_drewN | apply Kd.R_drew)); exact Kd.R_mono HO155.out (fun _ hk => ⟨hk.1.2, hk.2⟩)))
                            (case aS => exact (below_size (by repeat (first | (with_reducible first | exact HB.out | apply below_alloc | apply pw_below_drewN | apply below_drew1) | exact HB.out))))
                            (case aL => have := LMc33.out; omega)
                            intro v161 w43 ho hb hg hat
                            rw [← Ny160.out] at ho
                            have n0_ := Aside0.mk (Kd.R_after (ok := (fun k_ => some k_ ≠ (v151 : Value).ownBlock)) (by (with_reducible repeat (first | apply Kd.R_alloc | apply Kd.R_drewN | apply Kd.R_drew)); exact Kd.R_mono HO_5.out (fun _ hk => ⟨hk.1.2, hk.2⟩)) hg hat)
                            have n1_ := Aside0.mk (Kd.R_after (ok := (fun k_ => some k_ ≠ (.slice (some ad149) x5_2.length co36 : Value).ownBlock)) (by (with_reducible repeat (first | apply Kd.R_alloc | apply Kd.R_drewN | apply Kd.R_drew)); exact HO152.out) hg hat)
                            have n2_ := Aside0.mk (hb)
                            have n3_ := Aside0.mk ((show Kd.C (Kd.int .i64) w43 (some ad149) y156.length y156 from by rw [Ny156.out]; exact Kd.C_take (m := 0) ((Kd.R_reads' (Kd.R_after (ok := (fun k_ => some k_ ≠ (v151 : Value).ownBlock)) (by (with_reducible repeat (first | apply Kd.R_alloc | apply Kd.R_drewN | apply Kd.R_drew)); exact Kd.R_mono HO_5.out (fun _ hk => ⟨hk.1.2, hk.2⟩)) hg hat)).2.2) KL39.out))
                            have n4_ := Aside0.mk ((show Kd.C (Kd.int .i64) w43 A40 y163.length y163 from by rw [Ny163.out, KA40.out]; exact Kd.C_drop (m := 1) (c := co36) ((Kd.R_reads' (Kd.R_after (ok := (fun k_ => some k_ ≠ (v151 : Value).ownBlock)) (by (with_reducible repeat (first | apply Kd.R_alloc | apply Kd.R_drewN | apply Kd.R_drew)); exact Kd.R_mono HO_5.out (fun _ hk => ⟨hk.1.2, hk.2⟩)) hg hat)).2.2) KL40.out ((Kd.R_reads' (Kd.R_after (ok := (fun k_ => some k_ ≠ (v151 : Value).ownBlock)) (by (with_reducible repeat (first | apply Kd.R_alloc | apply Kd.R_drewN | apply Kd.R_drew)); exact Kd.R_mono HO_5.out (fun _ hk => ⟨hk.1.2, hk.2⟩)) hg hat)).2.1)))
                            have n5_ := Aside0.mk (ho)
                            clear HO_5
                            clear HO152
                            clear HB
                            clear HR159
                            clear HR166
                            clear HO155
                            have HO_5 := n0_
                            have HO152 := n1_
                            have HB := n2_
                            have HR159 := n3_
                            have HR166 := n4_
                            have HO162 := n5_
                            clear n0_ n1_ n2_ n3_ n4_ n5_
                            clear ho hb hg hat
                            refine hK.out _ _ trivial (fun hHeld => ?_)
                            clear hK K
                            refine norm_ (a' := ?_) ?_ ?_
                            rotate_left
                            · show Act.put _ (some 52) _ = _
                              simp only [Act.put, List.setIfInBounds_toArray, List.set_cons_zero, List.set_cons_succ, i64_w, i32_w, (show wrap64 1 = 1 by unfold wrap64; omega)]
                              rfl
                            refine one_ (i := 9) (N := some 57) #[true, true, true, true, true, true, true, true, true, true, false] rfl rfl (one_of HT_.out (by kernel_rfl)) (by decide) (fun K hK => ?_)
                            refine Kd.R_append_rows_step (Kd.int .i64) (w0 := w) w.heap.size (by rfl) (.tmp 52) (.tmp 56) 22 3 (.int .i64 0) 8 rfl Try.underlying22 info3 rfl (by decide) (by omega) v161 y160 y163 _ _ _ (fun k_ => some k_ ≠ (.slice (some ad149) x5_2.length co36 : Value).ownBlock ∧ some k_ ≠ (v151 : Value).ownBlock) (fun _ => False) rfl rfl ?aO ?aR (fun _ _ h => h) (fun _ h => h.elim) ?aF ?aB ?aS ?aL ?_
                            (case aR => repeat (first | exact (by repeat (first | (with_reducible exact HR166.out) | (with_reducible refine Kd.C_alloc ?_ _) | (with_reducible refine Kd.C_drewN ?_ _) | (with_reducible refine Kd.C_drew ?_) | exact HR166.out)) | (with_reducible refine Kd.C_alloc ?_ _) | (with_reducible refine Kd.C_drewN ?_ _) | (with_reducible refine Kd.C_drew ?_)))
                            (case aB => exact (by repeat (first | (with_reducible first | exact HB.out | apply below_alloc | apply pw_below_drewN | apply below_drew1) | exact HB.out)))
                            (case aF => exact (fun k_ hk => ⟨Kd.fresh' (Kd.R_lt (by (with_reducible repeat (first | apply Kd.R_alloc | apply Kd.R_drewN | apply Kd.R_drew)); exact HO_5.out)) k_ hk, Kd.fresh' (Kd.R_lt (by (with_reducible repeat (first | apply Kd.R_alloc | apply Kd.R_drewN | apply Kd.R_drew)); exact HO152.out)) k_ hk⟩))
                            (case aO => exact (by (with_reducible repeat (first | apply Kd.R_alloc | apply Kd.R_drewN | apply Kd.R_drew)); exact HO162.out))
                            (case aS => exact (below_size (by repeat (first | (with_reducible first | exact HB.out | apply below_alloc | apply pw_below_drewN | apply below_drew1) | exact HB.out))))
                            (case aL => have := LMc35.out; omega)
                            intro v168 w44 ho hb hg hat
                            rw [← Ny167.out] at ho
                            have n0_ := Aside0.mk (Kd.R_after (ok := (fun k_ => some k_ ≠ (v151 : Value).ownBlock)) (by (with_reducible repeat (first | apply Kd.R_alloc | apply Kd.R_drewN | apply Kd.R_drew)); exact HO_5.out) hg hat)
                            have n1_ := Aside0.mk (Kd.R_after (ok := (fun k_ => some k_ ≠ (.slice (some ad149) x5_2.length co36 : Value).ownBlock)) (by (with_reducible repeat (first | apply Kd.R_alloc | apply Kd.R_drewN | apply Kd.R_drew)); exact HO152.out) hg hat)
                            have n2_ := Aside0.mk (hb)
                            have n3_ := Aside0.mk ((show Kd.C (Kd.int .i64) w44 (some ad149) y156.length y156 from by rw [Ny156.out]; exact Kd.C_take (m := 0) ((Kd.R_reads' (Kd.R_after (ok := (fun k_ => some k_ ≠ (v151 : Value).ownBlock)) (by (with_reducible repeat (first | apply Kd.R_alloc | apply Kd.R_drewN | apply Kd.R_drew)); exact HO_5.out) hg hat)).2.2) KL39.out))
                            have n4_ := Aside0.mk ((show Kd.C (Kd.int .i64) w44 A40 y163.length y163 from by rw [Ny163.out, KA40.out]; exact Kd.C_drop (m := 1) (c := co36) ((Kd.R_reads' (Kd.R_after (ok := (fun k_ => some k_ ≠ (v151 : Value).ownBlock)) (by (with_reducible repeat (first | apply Kd.R_alloc | apply Kd.R_drewN | apply Kd.R_drew)); exact HO_5.out) hg hat)).2.2) KL40.out ((Kd.R_reads' (Kd.R_after (ok := (fun k_ => some k_ ≠ (v151 : Value).ownBlock)) (by (with_reducible repeat (first | apply Kd.R_alloc | apply Kd.R_drewN | apply Kd.R_drew)); exact HO_5.out) hg hat)).2.1)))
                            have n5_ := Aside0.mk (ho)
                            clear HO_5
                            clear HO152
                            clear HB
                            clear HR159
                            clear HR166
                            clear HO162
                            have HO_5 := n0_
                            have HO152 := n1_
                            have HB := n2_
                            have HR159 := n3_
                            have HR166 := n4_
                            have HO169 := n5_
                            clear n0_ n1_ n2_ n3_ n4_ n5_
                            clear ho hb hg hat
                            refine hK.out _ _ trivial (fun hHeld => ?_)
                            clear hK K
                            refine norm_ (a' := ?_) ?_ ?_
                            rotate_left
                            · show Act.put _ (some 57) _ = _
                              simp only [Act.put, List.setIfInBounds_toArray, List.set_cons_zero, List.set_cons_succ, i64_w, i32_w, (show wrap64 1 = 1 by unfold wrap64; omega)]
                              rfl
                            refine pure_ (i := 10) (N := some 5) (v := ?_) (a' := ?_) #[true, true, true, true, true, true, true, true, true, true, true] rfl rfl (any_of HT_.out (by kernel_rfl)) (fun _ _ _ h => h) (Or.inl ⟨by rfl, ?_⟩) ?_ ?_
                            rotate_left
                            · intro w'
                              go_simp
                              with_reducible rfl
                            rotate_left
                            · simp only [Act.put, List.setIfInBounds_toArray, List.set_cons_zero, List.set_cons_succ, i64_w, i32_w, (show wrap64 1 = 1 by unfold wrap64; omega)]
                              rfl
                            refine done_ (done_of HT_.out (by kernel_rfl)) ?_
                            try go_wp2
                            go_roundg k2
                            case measure => have := HK1.out; have := HK2.out; omega
                            case rel => exact ⟨(y167), (y150), (wrap64 (x8_2 + 1)), (by first | rfl | (simp; done) | (simp [*]; done)), H', ⟨by have := HK1.out; have := HK2.out; omega⟩, ⟨by (with_reducible repeat (first | apply Kd.R_alloc | apply Kd.R_drewN | apply Kd.R_drew)); exact Kd.R_mono HO169.out (fun _ hk => hk.2)⟩, ⟨by (with_reducible repeat (first | apply Kd.R_alloc | apply Kd.R_drewN | apply Kd.R_drew)); exact Kd.R_mono HO152.out (fun _ hk => hk.2)⟩, ⟨by repeat (first | (with_reducible first | exact HB.out | apply below_alloc | apply pw_below_drewN | apply below_drew1) | exact HB.out)⟩⟩
                          · rw [if_neg c35] at H
                            exact absurd H (by simp)
                        · rw [if_neg c34] at H
                          exact absurd H (by simp)
                      · rw [if_neg c33] at H
                        exact absurd H (by simp)
                    · rw [if_neg c32] at H
                      exact absurd H (by simp)
                  · rw [if_neg c31] at H
                    exact absurd H (by simp)
                · rw [if_neg c30] at H
                  exact absurd H (by simp)
            · rw [if_neg c6] at H
              have c6b0 : decide (x8_2 < a0) = false := decide_eq_false c6
              clear c6
              obtain rfl := Option.some.inj H
              go_wp2
              go_ret
              exact ⟨_, by first | rfl | (simp [errW_none, errW_some] <;> rfl) | (simp [*, errW_none, errW_some] <;> rfl), by (with_reducible repeat (first | apply Kd.R_alloc | apply Kd.R_drewN | apply Kd.R_drew)); exact Kd.R_mono HO_7.out (fun _ hk => trivial), by repeat (first | (with_reducible first | exact HB.out | apply below_alloc | apply pw_below_drewN | apply below_drew1) | exact HB.out)⟩

end Go.Proofs.Ytkgajiddcljdjaa.PAll
