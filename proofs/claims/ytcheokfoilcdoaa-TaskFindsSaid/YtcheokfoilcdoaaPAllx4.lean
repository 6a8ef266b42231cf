-- Laid by wip/printx.py, over the print of the kit.
import Derived.Test.YtcheokfoilcdoaaPAllx0
import Derived.Test.YtcheokfoilcdoaaPAllx2
import Derived.Test.YtcheokfoilcdoaaPAllx3
namespace Go.Proofs.Ytcheokfoilcdoaa.PAll
open Go.RowKit Go.Proofs.YtcheokfoilcdoaaW.PrintWords Go.Proofs.YtcheokfoilcdoaaW.PrintLast Go.Proofs.YtcheokfoilcdoaaW.PrintMore
attribute [local go_sem] max2_int min2_int max_two min_two max_three min_three max_four min_four   -- for this text's walks alone
set_option linter.unusedVariables false
set_option linter.unusedSimpArgs false

/-! ### cadencyref04_Set: function 10 -/
mutual
def cadencyref04_Set.l0 : Nat → List (S51) → Int → Int → List (S26) → Int → Option ((List (S26)))
  | 0, _, _, _, _, _ => none
  | k + 1, x0, x1, x2, x7, x8 => if x8 < (x0.length : Int) then (if x8 < x1 then (if 0 ≤ x8 then ((cadencyref04_rest.f ((rd_T51 x0 x8).f0) 4).bind fun t125 => ((cadencyref04_rest.f ((rd_T51 x0 x8).f1) 11).bind fun t127 => ((cadencyref04_rest.f ((rd_T51 x0 x8).f2) (wrap64 ((wrap64 ((wrap64 ((wrap64 (1 + t125)) + t127)) - (wrap64 (1 + t125)))) + 1))).bind fun t129 => ((cadencyref04_rest.f ((rd_T51 x0 x8).f4) 7).bind fun t131 => ((cadencyref04_rest.f ((rd_T51 x0 x8).f3) (wrap64 (1 + t125))).bind fun t133 => ((some (([(wrap64 (97 + x8)) % 256] : List Int) : List Int)).bind fun y134 => (if 1 + (strOfNums y134).size ≤ 9223372036854775807 then (if x7.length < 2199023255552 then (cadencyref04_Set.l0 k x0 x1 x2 (x7 ++ [(⟨(⟨#[116]⟩ : ByteArray) ++ (strOfNums y134), wrap64 (1 + t125), wrap64 ((wrap64 ((wrap64 (1 + t125)) + t127)) + t131), wrap64 ((wrap64 (1 + t125)) + t127), t129, wrap64 (1 + t133), 0⟩ : S26)]) (wrap64 (x8 + 1))) else (none)) else (none)))))))) else (none)) else (cadencyref04_Set.l1 k x2 x7 (x7.length : Int) 0)) else (cadencyref04_Set.l1 k x2 x7 (x7.length : Int) 0)
def cadencyref04_Set.l1 : Nat → Int → List (S26) → Int → Int → Option ((List (S26)))
  | 0, _, _, _, _ => none
  | k + 1, x2, x7, x14, x15 => if x15 < x14 then ((cadencyref04_turns.f x14 x2).bind fun t140 => ((cadencyref04_rest.f x2 x14).bind fun t141 => (if x14 = 0 then (none) else (if 0 ≤ x15 then (if x15 < (x7.length : Int) then (cadencyref04_Set.l1 k x2 (x7.set (x15 : Int).toNat (⟨(rd_T26 x7 x15).f0, (rd_T26 x7 x15).f1, (rd_T26 x7 x15).f2, (rd_T26 x7 x15).f3, (rd_T26 x7 x15).f4, (rd_T26 x7 x15).f5, wrap64 (1 + (Int.tmod (wrap64 ((wrap64 (x15 * t140)) + t141)) x14))⟩ : S26)) x14 (wrap64 (x15 + 1))) else (none)) else (none))))) else (some x7)
end
def cadencyref04_Set.f (k : Nat) (l0 : List (S51)) (a1 : Int) (a2 : Int) : Option ((List (S26))) := if (l0.length : Int) = 0 then (cadencyref04_Set.l0 k (([(⟨a2, 0, 0, 0, 0⟩ : S51)] : List (S51))) a1 a2 ([] : List (S26)) 0) else (cadencyref04_Set.l0 k l0 a1 a2 ([] : List (S26)) 0)
theorem cadencyref04_Set.mono_l : ∀ k, (∀ y0 y1 y2 y3 y4, LeO (cadencyref04_Set.l0 k y0 y1 y2 y3 y4) (cadencyref04_Set.l0 (k + 1) y0 y1 y2 y3 y4)) ∧ (∀ y0 y1 y2 y3, LeO (cadencyref04_Set.l1 k y0 y1 y2 y3) (cadencyref04_Set.l1 (k + 1) y0 y1 y2 y3))
  | 0 => ⟨fun _ _ _ _ _ r h => by simp [cadencyref04_Set.l0] at h, fun _ _ _ _ r h => by simp [cadencyref04_Set.l1] at h⟩
  | k + 1 => by
    obtain ⟨ih0, ih1⟩ := cadencyref04_Set.mono_l k
    refine ⟨?_, ?_⟩
    · intro y0 y1 y2 y3 y4
      unfold cadencyref04_Set.l0
      repeat' first
      | (with_reducible exact ih0 _ _ _ _ _)
      | (with_reducible exact ih1 _ _ _ _)
      | (with_reducible exact LeO.refl _)
      | (with_reducible exact LeO.none _)
      | (with_reducible refine LeO.ite ?_ ?_)
      | (with_reducible refine LeO.bind ?_ (fun _ => ?_))
      | exact ih0 _ _ _ _ _
      | exact ih1 _ _ _ _
      | exact LeO.none _
      | refine LeO.ite ?_ ?_
      | refine LeO.bind ?_ (fun _ => ?_)
    · intro y0 y1 y2 y3
      unfold cadencyref04_Set.l1
      repeat' first
      | (with_reducible exact ih0 _ _ _ _ _)
      | (with_reducible exact ih1 _ _ _ _)
      | (with_reducible exact LeO.refl _)
      | (with_reducible exact LeO.none _)
      | (with_reducible refine LeO.ite ?_ ?_)
      | (with_reducible refine LeO.bind ?_ (fun _ => ?_))
      | exact ih0 _ _ _ _ _
      | exact ih1 _ _ _ _
      | exact LeO.none _
      | refine LeO.ite ?_ ?_
      | refine LeO.bind ?_ (fun _ => ?_)
theorem cadencyref04_Set.mono : ∀ a0 a1 a2 k, LeO (cadencyref04_Set.f k a0 a1 a2) (cadencyref04_Set.f (k + 1) a0 a1 a2) := by
  intro a0 a1 a2 k
  obtain ⟨ih0, ih1⟩ := cadencyref04_Set.mono_l k
  unfold cadencyref04_Set.f
  repeat' first
      | (with_reducible exact ih0 _ _ _ _ _)
      | (with_reducible exact ih1 _ _ _ _)
      | (with_reducible exact LeO.refl _)
      | (with_reducible exact LeO.none _)
      | (with_reducible refine LeO.ite ?_ ?_)
      | (with_reducible refine LeO.bind ?_ (fun _ => ?_))
      | exact ih0 _ _ _ _ _
      | exact ih1 _ _ _ _
      | exact LeO.none _
      | refine LeO.ite ?_ ?_
      | refine LeO.bind ?_ (fun _ => ?_)
set_option maxHeartbeats 8000000 in
set_option maxRecDepth 100000 in
theorem cadencyref04_Set.calls (k : Nat) (P0_ : Nat → Prop) (A0 : Option Addr) (c0 : Nat) (l0 : List (S51)) (a1 : Int) (a2 : Int) (r : List (S26)) (w : World) (hs0 : Kd.V k51 51 w w.heap.size (fun k_ => P0_ k_) (.slice A0 l0.length c0) l0) (h : cadencyref04_Set.f k l0 a1 a2 = some r) :
    Calls Try.prog 10 #[.slice A0 l0.length c0, .int .i64 a1, .int .i64 a2] w fun e w' => ∃ v0_ : Value, e = .returned (v0_) ∧ Kd.R k26 26 w' w.heap.size (fun k_ => (w.heap.size ≤ k_)) v0_ r ∧ Below w.heap.size w w' := by
  have hu51 := Try.underlying51
  have hu26 := Try.underlying26
  have HO0 := Aside0.mk (show Kd.V k51 51 w w.heap.size (fun k_ => (P0_ k_ ∨ w.heap.size ≤ k_)) (.slice A0 l0.length c0) l0 from Kd.V_mono hs0 (fun k_ hk => .inl hk))
  have HB := Aside0.mk (Below.refl w.heap.size w)
  have H : (if (l0.length : Int) = 0 then (cadencyref04_Set.l0 k (([(⟨a2, 0, 0, 0, 0⟩ : S51)] : List (S51))) a1 a2 ([] : List (S26)) 0) else (cadencyref04_Set.l0 k l0 a1 a2 ([] : List (S26)) 0)) = some r := h
  clear h
  by_cases c4 : (l0.length : Int) = 0
  · rw [if_pos c4] at H
    have c4b0 : ((l0.length : Int) == 0) = true := beq_iff_eq.mpr c4
    have c4b1 : ((l0.length : Int) != 0) = false := bne_eq_false_iff_eq.mpr c4
    clear c4
    obtain ⟨y121, hy121⟩ : ∃ y_ : List (S51), y_ = (([(⟨a2, 0, 0, 0, 0⟩ : S51)] : List (S51))) := ⟨_, rfl⟩
    replace H : (cadencyref04_Set.l0 k y121 a1 a2 ([] : List (S26)) 0) = some r := by first | (rw [hy121]; with_reducible exact H) | (have H2_ := (Option.bind_some _ _).symm.trans H; rw [hy121]; with_reducible exact H2_) | (have H2_ := (Option.bind_some _ _).symm.trans H; with_reducible exact H2_) | with_reducible exact H | (rw [hy121]; exact H) | exact H
    have Ny121 := Aside0.mk hy121
    clear hy121
    have H' := Aside0.mk H
    clear H
    go_enter Try.func10, Try.ntmps10
    go_wp2_with (first | ((with_reducible refine gate_dst (N := 21) rfl ?_); refine Kd.R_lit k51 _ 51 ?hg (N := 21) ?hd (xs := ([(⟨a2, 0, 0, 0, 0⟩ : S51)] : List (S51))) (inner := [.int .i64 a2, .int .i64 0, .int .i64 0, .int .i64 0, .int .i64 0]) (ok := fun _ => True) (okp := fun _ => True) ?hr ?hp (fun _ hk => hk) trivial (Below.refl _ _) (Nat.le_refl _) (by simp) ?_; (case hd => rfl); (case hg => rfl); (case hr => first | (go_simp; done) | (go_simp; rfl)); (case hp => exact (Reps.c5 (show Kd.M k51 _ _ _ (⟨a2, 0, 0, 0, 0⟩ : S51) [.int .i64 a2, .int .i64 0, .int .i64 0, .int .i64 0, .int .i64 0] from (k51_mkM _ _ _ (⟨a2, 0, 0, 0, 0⟩ : S51) )) (Reps.none _ _))); intro v122 w5 ho6 hb hg_ hnew_; clear hg_ hnew_; (first | rw [← Ny121.out] at ho6 | (simp only [Int.reduceToNat] at ho6; rw [← Ny121.out] at ho6)); have n0_ := Aside0.mk (Kd.V_elder' (by (with_reducible repeat (first | apply Kd.V_alloc | apply Kd.V_drewN | apply Kd.V_drew)); exact HO0.out) (Kd.R_base ho6) hb); have n1_ := Aside0.mk (Kd.R_lower (Kd.R_newM (M := fun k_ => (w.heap.size ≤ k_)) ho6 (below_size (by repeat (first | (with_reducible first | exact HB.out | apply below_alloc | apply pw_below_drewN | apply below_drew1) | exact HB.out))) (fun k_ h_ => h_)) (below_size (by repeat (first | (with_reducible first | exact HB.out | apply below_alloc | apply pw_below_drewN | apply below_drew1) | exact HB.out)))); have n2_ := Aside0.mk (below_step (by repeat (first | (with_reducible first | exact HB.out | apply below_alloc | apply pw_below_drewN | apply below_drew1) | exact HB.out)) hb); clear HO0; clear HB; have HO0 := n0_; have HO123 := n1_; have HB := n2_; clear n0_ n1_ n2_; clear hb ho6))
    go_loopg [7, 8] k (fun kq v7 v8 w' => ∃ (x7_1 : List (S26)) (x8_1 : Int), v8 = .int .i64 x8_1 ∧ Aside0 (cadencyref04_Set.l0 kq y121 a1 a2 x7_1 x8_1 = some r) ∧ Aside0 (kq ≤ k) ∧ Aside0 (Kd.V k51 51 w' w.heap.size (fun k_ => (P0_ k_ ∨ w.heap.size ≤ k_) ∧ some k_ ≠ (v7 : Value).ownBlock) v122 y121) ∧ Aside0 (Kd.R k26 26 w' w.heap.size (fun k_ => (w.heap.size ≤ k_)) v7 x7_1) ∧ Aside0 (Below w.heap.size w w'))
    case atStart => exact ⟨(([] : List (S26))), (0), (by first | rfl | (simp; done) | (simp [*]; done)), H', ⟨Nat.le_refl _⟩, ⟨Kd.V_mono (Kd.R_V (Kd.R_bound (by (with_reducible repeat (first | apply Kd.R_alloc | apply Kd.R_drewN | apply Kd.R_drew)); exact HO123.out))) (fun k_ hk => ⟨.inr hk.2.1, by simp [Value.ownBlock]⟩)⟩, ⟨by first | exact Kd.R_nil _ _ _ _ _ | exact Kd.N_nil _ _ _ _ _ | exact Kd.V_nil _ _ _ _ _ | exact Kd.Q_nil _ _ _ _ _ | exact Kd.S_nil _ _ _ _ _⟩, ⟨by repeat (first | (with_reducible first | exact HB.out | apply below_alloc | apply pw_below_drewN | apply below_drew1) | exact HB.out)⟩⟩
    case round =>
      clear H'
      try clear c1
      try clear p2
      try clear c4
      try clear c4b0
      try clear c4b1
      try clear c5
      obtain ⟨x7_1, x8_1, rfl, HA, HK1, HO_0, HO_7, HB⟩ := hrel
      cases gk with
      | zero => exact absurd HA.out (by simp [cadencyref04_Set.l0])
      | succ k1 =>
        have H := HA.out
        clear HA
        simp only [cadencyref04_Set.l0] at H
        by_cases c7 : x8_1 < (y121.length : Int)
        · rw [if_pos c7] at H
          have c7b0 : decide (x8_1 < (y121.length : Int)) = true := decide_eq_true c7
          clear c7
          by_cases c8 : x8_1 < a1
          · rw [if_pos c8] at H
            have c8b0 : decide (x8_1 < a1) = true := decide_eq_true c8
            clear c8
            by_cases c9 : 0 ≤ x8_1
            · rw [if_pos c9] at H
              have c9b0 : decide (0 ≤ x8_1) = true := decide_eq_true c9
              clear c9
              replace H := Option.bind_eq_some_iff.mp H
              obtain ⟨t125, A100, H⟩ := H
              replace H : ((cadencyref04_rest.f ((rd_T51 y121 x8_1).f1) 11).bind fun t127 => ((cadencyref04_rest.f ((rd_T51 y121 x8_1).f2) (wrap64 ((wrap64 ((wrap64 ((wrap64 (1 + t125)) + t127)) - (wrap64 (1 + t125)))) + 1))).bind fun t129 => ((cadencyref04_rest.f ((rd_T51 y121 x8_1).f4) 7).bind fun t131 => ((cadencyref04_rest.f ((rd_T51 y121 x8_1).f3) (wrap64 (1 + t125))).bind fun t133 => ((some (([(wrap64 (97 + x8_1)) % 256] : List Int) : List Int)).bind fun y134 => (if 1 + (strOfNums y134).size ≤ 9223372036854775807 then (if x7_1.length < 2199023255552 then (cadencyref04_Set.l0 k1 y121 a1 a2 (x7_1 ++ [(⟨(⟨#[116]⟩ : ByteArray) ++ (strOfNums y134), wrap64 (1 + t125), wrap64 ((wrap64 ((wrap64 (1 + t125)) + t127)) + t131), wrap64 ((wrap64 (1 + t125)) + t127), t129, wrap64 (1 + t133), 0⟩ : S26)]) (wrap64 (x8_1 + 1))) else (none)) else (none))))))) = some r := H
              have A10 := Aside0.mk A100
              clear A100
              replace H := Option.bind_eq_some_iff.mp H
              obtain ⟨t127, A110, H⟩ := H
              replace H : ((cadencyref04_rest.f ((rd_T51 y121 x8_1).f2) (wrap64 ((wrap64 ((wrap64 ((wrap64 (1 + t125)) + t127)) - (wrap64 (1 + t125)))) + 1))).bind fun t129 => ((cadencyref04_rest.f ((rd_T51 y121 x8_1).f4) 7).bind fun t131 => ((cadencyref04_rest.f ((rd_T51 y121 x8_1).f3) (wrap64 (1 + t125))).bind fun t133 => ((some (([(wrap64 (97 + x8_1)) % 256] : List Int) : List Int)).bind fun y134 => (if 1 + (strOfNums y134).size ≤ 9223372036854775807 then (if x7_1.length < 2199023255552 then (cadencyref04_Set.l0 k1 y121 a1 a2 (x7_1 ++ [(⟨(⟨#[116]⟩ : ByteArray) ++ (strOfNums y134), wrap64 (1 + t125), wrap64 ((wrap64 ((wrap64 (1 + t125)) + t127)) + t131), wrap64 ((wrap64 (1 + t125)) + t127), t129, wrap64 (1 + t133), 0⟩ : S26)]) (wrap64 (x8_1 + 1))) else (none)) else (none)))))) = some r := H
              have A11 := Aside0.mk A110
              clear A110
              replace H := Option.bind_eq_some_iff.mp H
              obtain ⟨t129, A120, H⟩ := H
              replace H : ((cadencyref04_rest.f ((rd_T51 y121 x8_1).f4) 7).bind fun t131 => ((cadencyref04_rest.f ((rd_T51 y121 x8_1).f3) (wrap64 (1 + t125))).bind fun t133 => ((some (([(wrap64 (97 + x8_1)) % 256] : List Int) : List Int)).bind fun y134 => (if 1 + (strOfNums y134).size ≤ 9223372036854775807 then (if x7_1.length < 2199023255552 then (cadencyref04_Set.l0 k1 y121 a1 a2 (x7_1 ++ [(⟨(⟨#[116]⟩ : ByteArray) ++ (strOfNums y134), wrap64 (1 + t125), wrap64 ((wrap64 ((wrap64 (1 + t125)) + t127)) + t131), wrap64 ((wrap64 (1 + t125)) + t127), t129, wrap64 (1 + t133), 0⟩ : S26)]) (wrap64 (x8_1 + 1))) else (none)) else (none))))) = some r := H
              have A12 := Aside0.mk A120
              clear A120
              replace H := Option.bind_eq_some_iff.mp H
              obtain ⟨t131, A130, H⟩ := H
              replace H : ((cadencyref04_rest.f ((rd_T51 y121 x8_1).f3) (wrap64 (1 + t125))).bind fun t133 => ((some (([(wrap64 (97 + x8_1)) % 256] : List Int) : List Int)).bind fun y134 => (if 1 + (strOfNums y134).size ≤ 9223372036854775807 then (if x7_1.length < 2199023255552 then (cadencyref04_Set.l0 k1 y121 a1 a2 (x7_1 ++ [(⟨(⟨#[116]⟩ : ByteArray) ++ (strOfNums y134), wrap64 (1 + t125), wrap64 ((wrap64 ((wrap64 (1 + t125)) + t127)) + t131), wrap64 ((wrap64 (1 + t125)) + t127), t129, wrap64 (1 + t133), 0⟩ : S26)]) (wrap64 (x8_1 + 1))) else (none)) else (none)))) = some r := H
              have A13 := Aside0.mk A130
              clear A130
              replace H := Option.bind_eq_some_iff.mp H
              obtain ⟨t133, A140, H⟩ := H
              replace H : ((some (([(wrap64 (97 + x8_1)) % 256] : List Int) : List Int)).bind fun y134 => (if 1 + (strOfNums y134).size ≤ 9223372036854775807 then (if x7_1.length < 2199023255552 then (cadencyref04_Set.l0 k1 y121 a1 a2 (x7_1 ++ [(⟨(⟨#[116]⟩ : ByteArray) ++ (strOfNums y134), wrap64 (1 + t125), wrap64 ((wrap64 ((wrap64 (1 + t125)) + t127)) + t131), wrap64 ((wrap64 (1 + t125)) + t127), t129, wrap64 (1 + t133), 0⟩ : S26)]) (wrap64 (x8_1 + 1))) else (none)) else (none))) = some r := H
              have A14 := Aside0.mk A140
              clear A140
              obtain ⟨y134, hy134⟩ : ∃ y_ : List Int, y_ = (([(wrap64 (97 + x8_1)) % 256] : List Int)) := ⟨_, rfl⟩
              replace H : (if 1 + (strOfNums y134).size ≤ 9223372036854775807 then (if x7_1.length < 2199023255552 then (cadencyref04_Set.l0 k1 y121 a1 a2 (x7_1 ++ [(⟨(⟨#[116]⟩ : ByteArray) ++ (strOfNums y134), wrap64 (1 + t125), wrap64 ((wrap64 ((wrap64 (1 + t125)) + t127)) + t131), wrap64 ((wrap64 (1 + t125)) + t127), t129, wrap64 (1 + t133), 0⟩ : S26)]) (wrap64 (x8_1 + 1))) else (none)) else (none)) = some r := by first | (rw [hy134]; with_reducible exact H) | (have H2_ := (Option.bind_some _ _).symm.trans H; rw [hy134]; with_reducible exact H2_) | (have H2_ := (Option.bind_some _ _).symm.trans H; with_reducible exact H2_) | with_reducible exact H | (rw [hy134]; exact H) | exact H
              have Ny134 := Aside0.mk hy134
              clear hy134
              by_cases c15 : 1 + (strOfNums y134).size ≤ 9223372036854775807
              · rw [if_pos c15] at H
                have c15b0 := eq_true c15
                have c15b1 : decide (1 + (strOfNums y134).size ≤ 9223372036854775807) = true := decide_eq_true c15
                try have c15b2 : (9223372036854775807 < 1 + (strOfNums y134).size) = False := eq_false (Nat.not_lt.2 c15)
                by_cases c16 : x7_1.length < 2199023255552
                · rw [if_pos c16] at H
                  have LMc16 := Aside0.mk c16
                  clear c16
                  obtain ⟨y137, hy137⟩ : ∃ y_ : List (S26), y_ = (x7_1 ++ [(⟨(⟨#[116]⟩ : ByteArray) ++ (strOfNums y134), wrap64 (1 + t125), wrap64 ((wrap64 ((wrap64 (1 + t125)) + t127)) + t131), wrap64 ((wrap64 (1 + t125)) + t127), t129, wrap64 (1 + t133), 0⟩ : S26)]) := ⟨_, rfl⟩
                  replace H : (cadencyref04_Set.l0 k1 y121 a1 a2 y137 (wrap64 (x8_1 + 1))) = some r := by first | (rw [hy137]; with_reducible exact H) | (have H2_ := (Option.bind_some _ _).symm.trans H; rw [hy137]; with_reducible exact H2_) | (have H2_ := (Option.bind_some _ _).symm.trans H; with_reducible exact H2_) | with_reducible exact H | (rw [hy137]; exact H) | exact H
                  have Ny137 := Aside0.mk hy137
                  clear hy137
                  have H' := Aside0.mk H
                  clear H
                  obtain ⟨Ao17, co17, eo17⟩ := Kd.V_slice HO_0.out
                  subst eo17
                  have p124 : 0 ≤ (x8_1 : Int) := of_decide_eq_true (by first | (with_reducible assumption) | assumption)
                  have q124 : x8_1 < (y121.length : Int) := of_decide_eq_true (by first | (with_reducible assumption) | assumption)
                  obtain ⟨ad124, e124, hx124_0, hx124_1, hx124_2, hx124_3, hx124_4⟩ := at_T51 (Kd.V_reads' HO_0.out).2.2 x8_1 p124 q124
                  cases e124
                  replace p124 := eq_true p124
                  replace q124 := eq_true q124
                  go_wp2_with (first | ((with_reducible refine gate_callee (f := 20) rfl ?_); refine goesL_ (some 38) rfl rfl Try.func20 (by kernel_rfl) rfl #[.int .i64 ((rd_T51 y121 x8_1).f0), .int .i64 4] rfl (by (try simp only [List.map_toArray, List.map_cons, List.map_nil]); first | done | rfl | (simp only [List.length_drop, List.length_take]; rfl) | (simp only [← hl7_2]; rfl)) ?_; (with_reducible refine (cadencyref04_rest.calls ((rd_T51 y121 x8_1).f0) 4 t125 _ A10.out).mono ?_); rintro e w' ⟨rfl, ⟨nd, rfl⟩⟩; refine ⟨_, rfl, ?_⟩; have p126 : 0 ≤ (x8_1 : Int) := of_decide_eq_true (by first | (with_reducible assumption) | assumption); have q126 : x8_1 < (y121.length : Int) := of_decide_eq_true (by first | (with_reducible assumption) | assumption); obtain ⟨ad126, e126, hx126_0, hx126_1, hx126_2, hx126_3, hx126_4⟩ := at_T51 (Kd.V_reads' HO_0.out).2.2 x8_1 p126 q126; obtain rfl : ad124 = ad126 := (by injection e126); replace p126 := eq_true p126; replace q126 := eq_true q126) | ((with_reducible refine gate_callee (f := 20) rfl ?_); refine goesL_ (some 46) rfl rfl Try.func20 (by kernel_rfl) rfl #[.int .i64 ((rd_T51 y121 x8_1).f1), .int .i64 11] rfl (by (try simp only [List.map_toArray, List.map_cons, List.map_nil]); first | done | rfl | (simp only [List.length_drop, List.length_take]; rfl) | (simp only [← hl7_2]; rfl)) ?_; (with_reducible refine (cadencyref04_rest.calls ((rd_T51 y121 x8_1).f1) 11 t127 _ A11.out).mono ?_); rintro e w' ⟨rfl, ⟨nd, rfl⟩⟩; refine ⟨_, rfl, ?_⟩; have p128 : 0 ≤ (x8_1 : Int) := of_decide_eq_true (by first | (with_reducible assumption) | assumption); have q128 : x8_1 < (y121.length : Int) := of_decide_eq_true (by first | (with_reducible assumption) | assumption); obtain ⟨ad128, e128, hx128_0, hx128_1, hx128_2, hx128_3, hx128_4⟩ := at_T51 (Kd.V_reads' HO_0.out).2.2 x8_1 p128 q128; obtain rfl : ad124 = ad128 := (by injection e128); replace p128 := eq_true p128; replace q128 := eq_true q128) | ((with_reducible refine gate_callee (f := 20) rfl ?_); refine goesL_ (some 57) rfl rfl Try.func20 (by kernel_rfl) rfl #[.int .i64 ((rd_T51 y121 x8_1).f2), .int .i64 (wrap64 ((wrap64 ((wrap64 ((wrap64 (1 + t125)) + t127)) - (wrap64 (1 + t125)))) + 1))] rfl (by (try simp only [List.map_toArray, List.map_cons, List.map_nil]); first | done | rfl | (simp only [List.length_drop, List.length_take]; rfl) | (simp only [← hl7_2]; rfl)) ?_; (with_reducible refine (cadencyref04_rest.calls ((rd_T51 y121 x8_1).f2) (wrap64 ((wrap64 ((wrap64 ((wrap64 (1 + t125)) + t127)) - (wrap64 (1 + t125)))) + 1)) t129 _ A12.out).mono ?_); rintro e w' ⟨rfl, ⟨nd, rfl⟩⟩; refine ⟨_, rfl, ?_⟩; have p130 : 0 ≤ (x8_1 : Int) := of_decide_eq_true (by first | (with_reducible assumption) | assumption); have q130 : x8_1 < (y121.length : Int) := of_decide_eq_true (by first | (with_reducible assumption) | assumption); obtain ⟨ad130, e130, hx130_0, hx130_1, hx130_2, hx130_3, hx130_4⟩ := at_T51 (Kd.V_reads' HO_0.out).2.2 x8_1 p130 q130; obtain rfl : ad124 = ad130 := (by injection e130); replace p130 := eq_true p130; replace q130 := eq_true q130) | ((with_reducible refine gate_callee (f := 20) rfl ?_); refine goesL_ (some 64) rfl rfl Try.func20 (by kernel_rfl) rfl #[.int .i64 ((rd_T51 y121 x8_1).f4), .int .i64 7] rfl (by (try simp only [List.map_toArray, List.map_cons, List.map_nil]); first | done | rfl | (simp only [List.length_drop, List.length_take]; rfl) | (simp only [← hl7_2]; rfl)) ?_; (with_reducible refine (cadencyref04_rest.calls ((rd_T51 y121 x8_1).f4) 7 t131 _ A13.out).mono ?_); rintro e w' ⟨rfl, ⟨nd, rfl⟩⟩; refine ⟨_, rfl, ?_⟩; have p132 : 0 ≤ (x8_1 : Int) := of_decide_eq_true (by first | (with_reducible assumption) | assumption); have q132 : x8_1 < (y121.length : Int) := of_decide_eq_true (by first | (with_reducible assumption) | assumption); obtain ⟨ad132, e132, hx132_0, hx132_1, hx132_2, hx132_3, hx132_4⟩ := at_T51 (Kd.V_reads' HO_0.out).2.2 x8_1 p132 q132; obtain rfl : ad124 = ad132 := (by injection e132); replace p132 := eq_true p132; replace q132 := eq_true q132) | ((with_reducible refine gate_callee (f := 20) rfl ?_); refine goesL_ (some 72) rfl rfl Try.func20 (by kernel_rfl) rfl #[.int .i64 ((rd_T51 y121 x8_1).f3), .int .i64 (wrap64 (1 + t125))] rfl (by (try simp only [List.map_toArray, List.map_cons, List.map_nil]); first | done | rfl | (simp only [List.length_drop, List.length_take]; rfl) | (simp only [← hl7_2]; rfl)) ?_; (with_reducible refine (cadencyref04_rest.calls ((rd_T51 y121 x8_1).f3) (wrap64 (1 + t125)) t133 _ A14.out).mono ?_); rintro e w' ⟨rfl, ⟨nd, rfl⟩⟩; refine ⟨_, rfl, ?_⟩) | ((with_reducible refine gate_dst (N := 78) rfl ?_); refine Kd.R_lit (Kd.int .u8) _ 5 ?hg (N := 78) ?hd (xs := ([(wrap64 (97 + x8_1)) % 256] : List Int)) (inner := [.int .u8 ((wrap64 (97 + x8_1)) % 256)]) (ok := fun _ => True) (okp := fun _ => True) ?hr ?hp (fun _ hk => hk) trivial (Below.refl _ _) (Nat.le_refl _) (by simp) ?_; (case hd => rfl); (case hg => rfl); (case hr => first | (go_simp; done) | (go_simp; rfl)); (case hp => exact (Reps.one (show Kd.M (Kd.int .u8) _ _ _ ((wrap64 (97 + x8_1)) % 256) [.int .u8 ((wrap64 (97 + x8_1)) % 256)] from rfl) (Reps.none _ _))); intro v135 w18 ho19 hb hg_ hnew_; clear hg_ hnew_; (first | rw [← Ny134.out] at ho19 | (simp only [Int.reduceToNat] at ho19; rw [← Ny134.out] at ho19)); have n0_ := Aside0.mk (Kd.V_elder' (by (with_reducible repeat (first | apply Kd.V_alloc | apply Kd.V_drewN | apply Kd.V_drew)); exact HO_0.out) (Kd.R_base ho19) hb); have n1_ := Aside0.mk (Kd.R_below (by (with_reducible repeat (first | apply Kd.R_alloc | apply Kd.R_drewN | apply Kd.R_drew)); exact HO_7.out) hb); have n2_ := Aside0.mk (Kd.R_lower (Kd.R_newM (M := fun k_ => (w.heap.size ≤ k_)) ho19 (below_size (by repeat (first | (with_reducible first | exact HB.out | apply below_alloc | apply pw_below_drewN | apply below_drew1) | exact HB.out))) (fun k_ h_ => h_)) (below_size (by repeat (first | (with_reducible first | exact HB.out | apply below_alloc | apply pw_below_drewN | apply below_drew1) | exact HB.out)))); have n3_ := Aside0.mk (below_step (by repeat (first | (with_reducible first | exact HB.out | apply below_alloc | apply pw_below_drewN | apply below_drew1) | exact HB.out)) hb); clear HO_0; clear HO_7; clear HB; have HO_0 := n0_; have HO_7 := n1_; have HO136 := n2_; have HB := n3_; clear n0_ n1_ n2_ n3_; clear hb ho19; have hcv20 := own_string (P := Try.prog) Try.underlying40 Try.underlying5 Try.underlying9 (Kd.own_of_R HO136.out)) | ((with_reducible refine gate_builtin (b := .append) (xs := #[.tmp 74, .tmp 87]) rfl ?_); at_builtin; refine Kd.R_append k26 (w0 := w) w.heap.size rfl (.tmp 74) (.tmp 87) 30 26 (.agg #[(.string ⟨#[]⟩), (.int .i64 0), (.int .i64 0), (.int .i64 0), (.int .i64 0), (.int .i64 0), (.int .i64 0)]) 64 rfl Try.underlying30 info26 rfl (by decide) (by omega) u7 x7_1 (⟨(⟨#[116]⟩ : ByteArray) ++ (strOfNums y134), wrap64 (1 + t125), wrap64 ((wrap64 ((wrap64 (1 + t125)) + t127)) + t131), wrap64 ((wrap64 (1 + t125)) + t127), t129, wrap64 (1 + t133), 0⟩ : S26) [.string ((⟨#[116]⟩ : ByteArray) ++ (strOfNums y134)), .int .i64 (wrap64 (1 + t125)), .int .i64 (wrap64 ((wrap64 ((wrap64 (1 + t125)) + t127)) + t131)), .int .i64 (wrap64 ((wrap64 (1 + t125)) + t127)), .int .i64 t129, .int .i64 (wrap64 (1 + t133)), .int .i64 0] (fun k_ => (w.heap.size ≤ k_)) (fun _ => False) rfl rfl ?aP (fun _ hk => hk.elim) ?aF ?aO ?aB ?aS ?aL ?_; (case aP => exact k26_mkM _ _ _ (⟨(⟨#[116]⟩ : ByteArray) ++ (strOfNums y134), wrap64 (1 + t125), wrap64 ((wrap64 ((wrap64 (1 + t125)) + t127)) + t131), wrap64 ((wrap64 (1 + t125)) + t127), t129, wrap64 (1 + t133), 0⟩ : S26)); (case aB => exact (by repeat (first | (with_reducible first | exact HB.out | apply below_alloc | apply pw_below_drewN | apply below_drew1) | exact HB.out))); (case aF => exact (fun k_ hk => (Nat.le_trans (below_size (by repeat (first | (with_reducible first | exact HB.out | apply below_alloc | apply pw_below_drewN | apply below_drew1) | exact HB.out))) hk))); (case aO => exact (by (with_reducible repeat (first | apply Kd.R_alloc | apply Kd.R_drewN | apply Kd.R_drew)); exact HO_7.out)); (case aS => exact (below_size (by repeat (first | (with_reducible first | exact HB.out | apply below_alloc | apply pw_below_drewN | apply below_drew1) | exact HB.out)))); (case aL => have := LMc16.out; omega); intro v138 w21 ho hb hg hat; rw [← Ny137.out] at ho; have n0_ := Aside0.mk (Kd.V_afterv (ok := (fun k_ => (P0_ k_ ∨ w.heap.size ≤ k_) ∧ some k_ ≠ (v135 : Value).ownBlock)) (by (with_reducible repeat (first | apply Kd.V_alloc | apply Kd.V_drewN | apply Kd.V_drew)); exact Kd.V_mono HO_0.out (fun _ hk => ⟨⟨hk.1.1, hk.2⟩, hk.1.2⟩)) hg hat); have n1_ := Aside0.mk (Kd.R_over' (by (with_reducible repeat (first | apply Kd.R_alloc | apply Kd.R_drewN | apply Kd.R_drew)); exact HO136.out) (Kd.R_typed (by (with_reducible repeat (first | apply Kd.R_alloc | apply Kd.R_drewN | apply Kd.R_drew)); exact HO_7.out)) (by decide) hg); have n2_ := Aside0.mk (hb); have n3_ := Aside0.mk (ho); clear HO_0; clear HO136; clear HB; clear HO_7; have HO_0 := n0_; have HO136 := n1_; have HB := n2_; have HO139 := n3_; clear n0_ n1_ n2_ n3_; clear ho hb hg hat))
                  go_roundg k1
                  case measure => have := HK1.out; omega
                  case rel => exact ⟨(y137), (wrap64 (x8_1 + 1)), (by first | rfl | (simp; done) | (simp [*]; done)), H', ⟨by have := HK1.out; omega⟩, ⟨by (with_reducible repeat (first | apply Kd.V_alloc | apply Kd.V_drewN | apply Kd.V_drew)); exact Kd.V_mono HO_0.out (fun _ hk => ⟨hk.1.1, hk.2⟩)⟩, ⟨by (with_reducible repeat (first | apply Kd.R_alloc | apply Kd.R_drewN | apply Kd.R_drew)); exact HO139.out⟩, ⟨by repeat (first | (with_reducible first | exact HB.out | apply below_alloc | apply pw_below_drewN | apply below_drew1) | exact HB.out)⟩⟩
                · rw [if_neg c16] at H
                  exact absurd H (by simp)
              · rw [if_neg c15] at H
                exact absurd H (by simp)
            · rw [if_neg c9] at H
              exact absurd H (by simp)
          · rw [if_neg c8] at H
            have c8b0 : decide (x8_1 < a1) = false := decide_eq_false c8
            clear c8
            have H' := Aside0.mk H
            clear H
            obtain ⟨Ao22, co22, eo22⟩ := Kd.V_slice HO_0.out
            subst eo22
            obtain ⟨Ao23, co23, eo23⟩ := Kd.R_slice HO_7.out
            subst eo23
            go_wp2
            go_loopg [15] k1 (fun kq v15 w' => ∃ (x7_2 : List (S26)) (x15_2 : Int), v15 = .int .i64 x15_2 ∧ Aside0 (cadencyref04_Set.l1 kq a2 x7_2 (x7_1.length : Int) x15_2 = some r) ∧ Aside0 (kq ≤ k1) ∧ Aside0 (Kd.R k26 26 w' w.heap.size (fun k_ => (w.heap.size ≤ k_)) (.slice Ao23 x7_1.length co23) x7_2) ∧ Aside0 (Below w.heap.size w w'))
            case atStart => exact ⟨(x7_1), (0), (by first | rfl | (simp; done) | (simp [*]; done)), H', ⟨Nat.le_refl _⟩, ⟨by (with_reducible repeat (first | apply Kd.R_alloc | apply Kd.R_drewN | apply Kd.R_drew)); exact HO_7.out⟩, ⟨by repeat (first | (with_reducible first | exact HB.out | apply below_alloc | apply pw_below_drewN | apply below_drew1) | exact HB.out)⟩⟩
            case round =>
              clear H'
              try clear c1
              try clear p1
              try clear q1
              try clear hx1
              try clear c2
              try clear p2
              try clear hcv2
              try clear c4
              try clear c4b0
              try clear c4b1
              try clear c5
              try clear p6
              try clear c7
              try clear c7b0
              try clear c8
              try clear c8b0
              try clear c9
              try clear c9b0
              try clear c10
              try clear p12
              try clear q12
              try clear hx12
              try clear p13
              try clear q13
              try clear hx13
              try clear c15
              try clear c15b0
              try clear c15b1
              try clear c15b2
              try clear c16
              try clear c20
              try clear hcv20
              try clear hx124_0
              try clear hx124_1
              try clear hx124_2
              try clear hx124_3
              try clear hx124_4
              try clear hx126_0
              try clear hx126_1
              try clear hx126_2
              try clear hx126_3
              try clear hx126_4
              try clear hx128_0
              try clear hx128_1
              try clear hx128_2
              try clear hx128_3
              try clear hx128_4
              try clear hx130_0
              try clear hx130_1
              try clear hx130_2
              try clear hx130_3
              try clear hx130_4
              try clear hx132_0
              try clear hx132_1
              try clear hx132_2
              try clear hx132_3
              try clear hx132_4
              try clear p124
              try clear p126
              try clear p128
              try clear p130
              try clear p132
              try clear p2
              try clear q124
              try clear q126
              try clear q128
              try clear q130
              try clear q132
              obtain ⟨x7_2, x15_2, rfl, HA, HK2, HO_7, HB⟩ := hrel
              have hl7_2 := (Kd.R_reads' HO_7.out).1
              rw [hl7_2] at HO_7
              (try simp only [hl7_2])
              cases gk with
              | zero => exact absurd HA.out (by simp [cadencyref04_Set.l1])
              | succ k2 =>
                have H := HA.out
                clear HA
                simp only [cadencyref04_Set.l1] at H
                by_cases c24 : x15_2 < (x7_1.length : Int)
                · rw [if_pos c24] at H
                  have c24b0 : decide (x15_2 < (x7_1.length : Int)) = true := decide_eq_true c24
                  clear c24
                  replace H := Option.bind_eq_some_iff.mp H
                  obtain ⟨t140, A250, H⟩ := H
                  replace H : ((cadencyref04_rest.f a2 (x7_1.length : Int)).bind fun t141 => (if (x7_1.length : Int) = 0 then (none) else (if 0 ≤ x15_2 then (if x15_2 < (x7_2.length : Int) then (cadencyref04_Set.l1 k2 a2 (x7_2.set (x15_2 : Int).toNat (⟨(rd_T26 x7_2 x15_2).f0, (rd_T26 x7_2 x15_2).f1, (rd_T26 x7_2 x15_2).f2, (rd_T26 x7_2 x15_2).f3, (rd_T26 x7_2 x15_2).f4, (rd_T26 x7_2 x15_2).f5, wrap64 (1 + (Int.tmod (wrap64 ((wrap64 (x15_2 * t140)) + t141)) (x7_1.length : Int)))⟩ : S26)) (x7_1.length : Int) (wrap64 (x15_2 + 1))) else (none)) else (none)))) = some r := H
                  have A25 := Aside0.mk A250
                  clear A250
                  replace H := Option.bind_eq_some_iff.mp H
                  obtain ⟨t141, A260, H⟩ := H
                  replace H : (if (x7_1.length : Int) = 0 then (none) else (if 0 ≤ x15_2 then (if x15_2 < (x7_2.length : Int) then (cadencyref04_Set.l1 k2 a2 (x7_2.set (x15_2 : Int).toNat (⟨(rd_T26 x7_2 x15_2).f0, (rd_T26 x7_2 x15_2).f1, (rd_T26 x7_2 x15_2).f2, (rd_T26 x7_2 x15_2).f3, (rd_T26 x7_2 x15_2).f4, (rd_T26 x7_2 x15_2).f5, wrap64 (1 + (Int.tmod (wrap64 ((wrap64 (x15_2 * t140)) + t141)) (x7_1.length : Int)))⟩ : S26)) (x7_1.length : Int) (wrap64 (x15_2 + 1))) else (none)) else (none))) = some r := H
                  have A26 := Aside0.mk A260
                  clear A260
                  by_cases c27 : (x7_1.length : Int) = 0
                  · rw [if_pos c27] at H
                    exact absurd H (by simp)
                  · rw [if_neg c27] at H
                    have c27b0 : ((x7_1.length : Int) == 0) = false := beq_eq_false_iff_ne.mpr c27
                    have c27b1 : ((x7_1.length : Int) != 0) = true := bne_iff_ne.mpr c27
                    have c27b2 : ¬ (x7_1 = []) := fun h_ => c27 (by rw [h_]; rfl)
                    by_cases c28 : 0 ≤ x15_2
                    · rw [if_pos c28] at H
                      have c28b0 : decide (0 ≤ x15_2) = true := decide_eq_true c28
                      clear c28
                      by_cases c29 : x15_2 < (x7_2.length : Int)
                      · rw [if_pos c29] at H
                        have c29b0 : decide (x15_2 < (x7_2.length : Int)) = true := decide_eq_true c29
                        clear c29
                        obtain ⟨y142, hy142⟩ : ∃ y_ : List (S26), y_ = (x7_2.set (x15_2 : Int).toNat (⟨(rd_T26 x7_2 x15_2).f0, (rd_T26 x7_2 x15_2).f1, (rd_T26 x7_2 x15_2).f2, (rd_T26 x7_2 x15_2).f3, (rd_T26 x7_2 x15_2).f4, (rd_T26 x7_2 x15_2).f5, wrap64 (1 + (Int.tmod (wrap64 ((wrap64 (x15_2 * t140)) + t141)) (x7_1.length : Int)))⟩ : S26)) := ⟨_, rfl⟩
                        replace H : (cadencyref04_Set.l1 k2 a2 y142 (x7_1.length : Int) (wrap64 (x15_2 + 1))) = some r := by first | (rw [hy142]; with_reducible exact H) | (have H2_ := (Option.bind_some _ _).symm.trans H; rw [hy142]; with_reducible exact H2_) | (have H2_ := (Option.bind_some _ _).symm.trans H; with_reducible exact H2_) | with_reducible exact H | (rw [hy142]; exact H) | exact H
                        have Ny142 := Aside0.mk hy142
                        clear hy142
                        have H' := Aside0.mk H
                        clear H
                        go_wp2_with (first | ((with_reducible refine gate_callee (f := 21) rfl ?_); refine goesL_ (some 101) rfl rfl Try.func21 (by kernel_rfl) rfl #[.int .i64 (x7_1.length : Int), .int .i64 a2] rfl (by (try simp only [List.map_toArray, List.map_cons, List.map_nil]); first | done | rfl | (simp only [List.length_drop, List.length_take]; rfl) | (simp only [← hl7_2]; rfl)) ?_; (with_reducible refine (cadencyref04_turns.calls (x7_1.length : Int) a2 t140 _ A25.out).mono ?_); rintro e w' ⟨rfl, ⟨nd, rfl⟩⟩; refine ⟨_, rfl, ?_⟩; (try (rw [drewN_self wr]; generalize hq_ : World.drewN wr _ = wr; have n0_ : Aside0 (Kd.R k26 26 wr w.heap.size (fun k_ => (w.heap.size ≤ k_)) (.slice Ao23 x7_2.length co23) x7_2) := ⟨by rw [← hq_]; exact (by (with_reducible repeat (first | apply Kd.R_alloc | apply Kd.R_drewN | apply Kd.R_drew)); exact HO_7.out)⟩; have n1_ : Aside0 (Below w.heap.size w wr) := ⟨by rw [← hq_]; exact (by repeat (first | (with_reducible first | exact HB.out | apply below_alloc | apply pw_below_drewN | apply below_drew1) | exact HB.out))⟩; clear HO_7 HB hq_; have HO_7 := n0_; have HB := n1_; clear n0_ n1_))) | ((with_reducible refine gate_callee (f := 20) rfl ?_); refine goesL_ (some 105) rfl rfl Try.func20 (by kernel_rfl) rfl #[.int .i64 a2, .int .i64 (x7_1.length : Int)] rfl (by (try simp only [List.map_toArray, List.map_cons, List.map_nil]); first | done | rfl | (simp only [List.length_drop, List.length_take]; rfl) | (simp only [← hl7_2]; rfl)) ?_; (with_reducible refine (cadencyref04_rest.calls a2 (x7_1.length : Int) t141 _ A26.out).mono ?_); rintro e w' ⟨rfl, ⟨nd, rfl⟩⟩; refine ⟨_, rfl, ?_⟩; (try (rw [drewN_self wr]; generalize hq_ : World.drewN wr _ = wr; have n0_ : Aside0 (Kd.R k26 26 wr w.heap.size (fun k_ => (w.heap.size ≤ k_)) (.slice Ao23 x7_2.length co23) x7_2) := ⟨by rw [← hq_]; exact (by (with_reducible repeat (first | apply Kd.R_alloc | apply Kd.R_drewN | apply Kd.R_drew)); exact HO_7.out)⟩; have n1_ : Aside0 (Below w.heap.size w wr) := ⟨by rw [← hq_]; exact (by repeat (first | (with_reducible first | exact HB.out | apply below_alloc | apply pw_below_drewN | apply below_drew1) | exact HB.out))⟩; clear HO_7 HB hq_; have HO_7 := n0_; have HB := n1_; clear n0_ n1_)); have p30 : 0 ≤ (x15_2 : Int) := of_decide_eq_true (by first | (with_reducible assumption) | assumption); have q30 : (x15_2 : Int) < ((x7_2.length : Int) : Int) := of_decide_eq_true (by first | (with_reducible assumption) | assumption); obtain ⟨go30, co30, eo30, gb30, gl30, cl30, HG30⟩ := Kd.R_form HO_7.out (by omega); (first | cases eo30 | (injection eo30 with ea_ en_ ec_; (first | subst ea_ | (injection ea_ with ea_; subst ea_)); subst ec_; clear en_)); have GB30 := Aside0.mk gb30; have GG30 := Aside0.mk HG30; clear gb30 gl30 HG30; obtain ⟨ce30, hcl30, hM30, hcc30, hfr30⟩ := Kd.R_elem HO_7.out z26 (x15_2 : Int) p30 q30; obtain rfl := k26_openM hM30; have hx30_0 : wr.cell? ⟨go30, (x15_2 : Int).toNat * 7, none⟩ = some (.string ((rd_T26 x7_2 x15_2).f0)) := hcc30 0 _ rfl; have hx30_1 : wr.cell? ⟨go30, (x15_2 : Int).toNat * 7 + 1, none⟩ = some (.int .i64 ((rd_T26 x7_2 x15_2).f1)) := hcc30 1 _ rfl; have hx30_2 : wr.cell? ⟨go30, (x15_2 : Int).toNat * 7 + 2, none⟩ = some (.int .i64 ((rd_T26 x7_2 x15_2).f2)) := hcc30 2 _ rfl; have hx30_3 : wr.cell? ⟨go30, (x15_2 : Int).toNat * 7 + 3, none⟩ = some (.int .i64 ((rd_T26 x7_2 x15_2).f3)) := hcc30 3 _ rfl; have hx30_4 : wr.cell? ⟨go30, (x15_2 : Int).toNat * 7 + 4, none⟩ = some (.int .i64 ((rd_T26 x7_2 x15_2).f4)) := hcc30 4 _ rfl; have hx30_5 : wr.cell? ⟨go30, (x15_2 : Int).toNat * 7 + 5, none⟩ = some (.int .i64 ((rd_T26 x7_2 x15_2).f5)) := hcc30 5 _ rfl; have hx30_6 : wr.cell? ⟨go30, (x15_2 : Int).toNat * 7 + 6, none⟩ = some (.int .i64 ((rd_T26 x7_2 x15_2).f6)) := hcc30 6 _ rfl; have hf30_0 : wr.frozen? ⟨go30, (x15_2 : Int).toNat * 7, none⟩ = false := hfr30 0; have hf30_1 : wr.frozen? ⟨go30, (x15_2 : Int).toNat * 7 + 1, none⟩ = false := hfr30 1; have hf30_2 : wr.frozen? ⟨go30, (x15_2 : Int).toNat * 7 + 2, none⟩ = false := hfr30 2; have hf30_3 : wr.frozen? ⟨go30, (x15_2 : Int).toNat * 7 + 3, none⟩ = false := hfr30 3; have hf30_4 : wr.frozen? ⟨go30, (x15_2 : Int).toNat * 7 + 4, none⟩ = false := hfr30 4; have hf30_5 : wr.frozen? ⟨go30, (x15_2 : Int).toNat * 7 + 5, none⟩ = false := hfr30 5; have hf30_6 : wr.frozen? ⟨go30, (x15_2 : Int).toNat * 7 + 6, none⟩ = false := hfr30 6; clear hcl30 hcc30 hfr30 hM30; replace p30 := eq_true p30; replace q30 := eq_true q30; have HX31 := Aside0.mk (show Kd.R k26 26 wr w.heap.size (fun k_ => (w.heap.size ≤ k_)) (.slice (some ⟨go30, 0, none⟩) x7_2.length co23) x7_2 from (by (with_reducible repeat (first | apply Kd.R_alloc | apply Kd.R_drewN | apply Kd.R_drew)); exact HO_7.out)); obtain ⟨ce31, hcl31, hM31, hcc31, hfr31⟩ := Kd.R_elem HX31.out z26 (x15_2 : Int) (of_decide_eq_true (by first | (with_reducible assumption) | assumption)) (by have h_ : (x15_2 : Int) < ((x7_2.length : Int) : Int) := of_decide_eq_true (by first | (with_reducible assumption) | assumption); first | exact h_ | (have e_ := (Kd.R_reads' HO_7.out).1; omega) | simpa using h_); obtain rfl := k26_openM hM31; have HP31 := Kd.R_seg HX31.out (x15_2 : Int) (of_decide_eq_true (by first | (with_reducible assumption) | assumption)) (by have h_ : (x15_2 : Int) < ((x7_2.length : Int) : Int) := of_decide_eq_true (by first | (with_reducible assumption) | assumption); first | exact h_ | (have e_ := (Kd.R_reads' HO_7.out).1; omega) | simpa using h_) (seg := [.int .i64 (wrap64 (1 + (Int.tmod (wrap64 ((wrap64 (x15_2 * t140)) + t141)) (x7_1.length : Int))))]) (j := 6) hcl31 hcc31 (show 7 ≤ 7 from by decide) (x' := (⟨(rd_T26 x7_2 x15_2).f0, (rd_T26 x7_2 x15_2).f1, (rd_T26 x7_2 x15_2).f2, (rd_T26 x7_2 x15_2).f3, (rd_T26 x7_2 x15_2).f4, (rd_T26 x7_2 x15_2).f5, wrap64 (1 + (Int.tmod (wrap64 ((wrap64 (x15_2 * t140)) + t141)) (x7_1.length : Int)))⟩ : S26)) (k26_mkM _ _ _ (⟨(rd_T26 x7_2 x15_2).f0, (rd_T26 x7_2 x15_2).f1, (rd_T26 x7_2 x15_2).f2, (rd_T26 x7_2 x15_2).f3, (rd_T26 x7_2 x15_2).f4, (rd_T26 x7_2 x15_2).f5, wrap64 (1 + (Int.tmod (wrap64 ((wrap64 (x15_2 * t140)) + t141)) (x7_1.length : Int)))⟩ : S26) ) (fun _ hk => hk); have hx31_6 := hcc31 6 _ rfl; (try simp only [show (k26).sz = 7 from rfl, Nat.mul_one, Nat.add_zero] at hx31_6); have hf31_6 := hfr31 6; (try simp only [show (k26).sz = 7 from rfl, Nat.mul_one, Nat.add_zero] at hf31_6); clear hcl31 hcc31 hfr31 hM31) | ((with_reducible refine gate_store (t := 3) (p := 111) rfl ?_); refine store_event (t := 3) (p := 111) (v := ?vo_w32) (w1 := (wr.setCell ⟨go30, (x15_2 : Int).toNat * 7 + 6, none⟩ (.int .i64 (wrap64 (1 + (Int.tmod (wrap64 ((wrap64 (x15_2 * t140)) + t141)) (x7_1.length : Int))))))) ?hg ?ho ?hn ?hr ?_; (case ho => rfl); (case hg => rfl); (case hn => rfl); (case hr => first | (go_simp; done) | (go_simp; rfl)); intro w32 hw; have hg : wr.grownBy w32 (some go30) := (by rw [hw]; exact HP31.2); have hp_ : Kd.R k26 26 w32 w.heap.size (fun k_ => (w.heap.size ≤ k_)) (.slice (some ⟨go30, 0, none⟩) x7_2.length co23) y142 := (by rw [hw, Ny142.out]; exact HP31.1); clear HP31; have n0_ := Aside0.mk (hp_); have n1_ := Aside0.mk ((by rw [hw]; exact below_set (HB.out) GB30.out : Below w.heap.size w w32)); clear HO_7; clear HB; have HO_7 := n0_; have HB := n1_; clear n0_ n1_; clear hg hw hp_))
                        (try simp only [← hl7_2])
                        go_roundg k2
                        case measure => have := HK1.out; have := HK2.out; omega
                        case rel => exact ⟨(y142), (wrap64 (x15_2 + 1)), (by first | rfl | (simp; done) | (simp [*]; done)), H', ⟨by have := HK1.out; have := HK2.out; omega⟩, ⟨by (try simp only [hl7_2]); (with_reducible repeat (first | apply Kd.R_alloc | apply Kd.R_drewN | apply Kd.R_drew)); exact HO_7.out⟩, ⟨by repeat (first | (with_reducible first | exact HB.out | apply below_alloc | apply pw_below_drewN | apply below_drew1) | exact HB.out)⟩⟩
                      · rw [if_neg c29] at H
                        exact absurd H (by simp)
                    · rw [if_neg c28] at H
                      exact absurd H (by simp)
                · rw [if_neg c24] at H
                  have c24b0 : decide (x15_2 < (x7_1.length : Int)) = false := decide_eq_false c24
                  (try (have c24b0_h := c24b0; simp only [hl7_2] at c24b0_h))
                  clear c24
                  obtain rfl := Option.some.inj H
                  go_wp2
                  go_ret
                  exact ⟨_, by first | rfl | (simp [errW_none, errW_some] <;> rfl) | (simp [*, errW_none, errW_some] <;> rfl), by (with_reducible repeat (first | apply Kd.R_alloc | apply Kd.R_drewN | apply Kd.R_drew)); exact HO_7.out, by repeat (first | (with_reducible first | exact HB.out | apply below_alloc | apply pw_below_drewN | apply below_drew1) | exact HB.out)⟩
        · rw [if_neg c7] at H
          have c7b0 : decide (x8_1 < (y121.length : Int)) = false := decide_eq_false c7
          clear c7
          have H' := Aside0.mk H
          clear H
          obtain ⟨Ao33, co33, eo33⟩ := Kd.V_slice HO_0.out
          subst eo33
          obtain ⟨Ao34, co34, eo34⟩ := Kd.R_slice HO_7.out
          subst eo34
          go_wp2
          go_loopg [15] k1 (fun kq v15 w' => ∃ (x7_2 : List (S26)) (x15_2 : Int), v15 = .int .i64 x15_2 ∧ Aside0 (cadencyref04_Set.l1 kq a2 x7_2 (x7_1.length : Int) x15_2 = some r) ∧ Aside0 (kq ≤ k1) ∧ Aside0 (Kd.R k26 26 w' w.heap.size (fun k_ => (w.heap.size ≤ k_)) (.slice Ao34 x7_1.length co34) x7_2) ∧ Aside0 (Below w.heap.size w w'))
          case atStart => exact ⟨(x7_1), (0), (by first | rfl | (simp; done) | (simp [*]; done)), H', ⟨Nat.le_refl _⟩, ⟨by (with_reducible repeat (first | apply Kd.R_alloc | apply Kd.R_drewN | apply Kd.R_drew)); exact HO_7.out⟩, ⟨by repeat (first | (with_reducible first | exact HB.out | apply below_alloc | apply pw_below_drewN | apply below_drew1) | exact HB.out)⟩⟩
          case round =>
            clear H'
            try clear c1
            try clear p1
            try clear q1
            try clear hx1
            try clear c2
            try clear p2
            try clear hcv2
            try clear c3
            try clear p3
            try clear q3
            try clear hx3
            try clear hf3
            try clear c4
            try clear c4b0
            try clear c4b1
            try clear c5
            try clear p6
            try clear c7
            try clear c7b0
            try clear c8
            try clear c8b0
            try clear c9
            try clear c9b0
            try clear c10
            try clear p12
            try clear q12
            try clear hx12
            try clear p13
            try clear q13
            try clear hx13
            try clear c15
            try clear c15b0
            try clear c15b1
            try clear c15b2
            try clear c16
            try clear c20
            try clear hcv20
            try clear c21
            try clear c24
            try clear c24b0
            try clear c27
            try clear c27b0
            try clear c27b1
            try clear c27b2
            try clear c28
            try clear c28b0
            try clear c29
            try clear c29b0
            try clear c30
            try clear p30
            try clear q30
            try clear hx30
            try clear hf30
            try clear c31
            try clear hx31
            try clear hf31
            try clear hx124_0
            try clear hx124_1
            try clear hx124_2
            try clear hx124_3
            try clear hx124_4
            try clear hx126_0
            try clear hx126_1
            try clear hx126_2
            try clear hx126_3
            try clear hx126_4
            try clear hx128_0
            try clear hx128_1
            try clear hx128_2
            try clear hx128_3
            try clear hx128_4
            try clear hx130_0
            try clear hx130_1
            try clear hx130_2
            try clear hx130_3
            try clear hx130_4
            try clear hx132_0
            try clear hx132_1
            try clear hx132_2
            try clear hx132_3
            try clear hx132_4
            try clear hx30_0
            try clear hx30_1
            try clear hx30_2
            try clear hx30_3
            try clear hx30_4
            try clear hx30_5
            try clear hx30_6
            try clear hx31_6
            try clear p1
            try clear p12
            try clear p124
            try clear p126
            try clear p128
            try clear p13
            try clear p130
            try clear p132
            try clear p2
            try clear p30
            try clear p6
            try clear q1
            try clear q12
            try clear q124
            try clear q126
            try clear q128
            try clear q13
            try clear q130
            try clear q132
            try clear q30
            obtain ⟨x7_2, x15_2, rfl, HA, HK2, HO_7, HB⟩ := hrel
            have hl7_2 := (Kd.R_reads' HO_7.out).1
            rw [hl7_2] at HO_7
            (try simp only [hl7_2])
            cases gk with
            | zero => exact absurd HA.out (by simp [cadencyref04_Set.l1])
            | succ k2 =>
              have H := HA.out
              clear HA
              simp only [cadencyref04_Set.l1] at H
              by_cases c35 : x15_2 < (x7_1.length : Int)
              · rw [if_pos c35] at H
                have c35b0 : decide (x15_2 < (x7_1.length : Int)) = true := decide_eq_true c35
                clear c35
                replace H := Option.bind_eq_some_iff.mp H
                obtain ⟨t140, A360, H⟩ := H
                replace H : ((cadencyref04_rest.f a2 (x7_1.length : Int)).bind fun t141 => (if (x7_1.length : Int) = 0 then (none) else (if 0 ≤ x15_2 then (if x15_2 < (x7_2.length : Int) then (cadencyref04_Set.l1 k2 a2 (x7_2.set (x15_2 : Int).toNat (⟨(rd_T26 x7_2 x15_2).f0, (rd_T26 x7_2 x15_2).f1, (rd_T26 x7_2 x15_2).f2, (rd_T26 x7_2 x15_2).f3, (rd_T26 x7_2 x15_2).f4, (rd_T26 x7_2 x15_2).f5, wrap64 (1 + (Int.tmod (wrap64 ((wrap64 (x15_2 * t140)) + t141)) (x7_1.length : Int)))⟩ : S26)) (x7_1.length : Int) (wrap64 (x15_2 + 1))) else (none)) else (none)))) = some r := H
                have A36 := Aside0.mk A360
                clear A360
                replace H := Option.bind_eq_some_iff.mp H
                obtain ⟨t141, A370, H⟩ := H
                replace H : (if (x7_1.length : Int) = 0 then (none) else (if 0 ≤ x15_2 then (if x15_2 < (x7_2.length : Int) then (cadencyref04_Set.l1 k2 a2 (x7_2.set (x15_2 : Int).toNat (⟨(rd_T26 x7_2 x15_2).f0, (rd_T26 x7_2 x15_2).f1, (rd_T26 x7_2 x15_2).f2, (rd_T26 x7_2 x15_2).f3, (rd_T26 x7_2 x15_2).f4, (rd_T26 x7_2 x15_2).f5, wrap64 (1 + (Int.tmod (wrap64 ((wrap64 (x15_2 * t140)) + t141)) (x7_1.length : Int)))⟩ : S26)) (x7_1.length : Int) (wrap64 (x15_2 + 1))) else (none)) else (none))) = some r := H
                have A37 := Aside0.mk A370
                clear A370
                by_cases c38 : (x7_1.length : Int) = 0
                · rw [if_pos c38] at H
                  exact absurd H (by simp)
                · rw [if_neg c38] at H
                  have c38b0 : ((x7_1.length : Int) == 0) = false := beq_eq_false_iff_ne.mpr c38
                  have c38b1 : ((x7_1.length : Int) != 0) = true := bne_iff_ne.mpr c38
                  have c38b2 : ¬ (x7_1 = []) := fun h_ => c38 (by rw [h_]; rfl)
                  by_cases c39 : 0 ≤ x15_2
                  · rw [if_pos c39] at H
                    have c39b0 : decide (0 ≤ x15_2) = true := decide_eq_true c39
                    clear c39
                    by_cases c40 : x15_2 < (x7_2.length : Int)
                    · rw [if_pos c40] at H
                      have c40b0 : decide (x15_2 < (x7_2.length : Int)) = true := decide_eq_true c40
                      clear c40
                      obtain ⟨y142, hy142⟩ : ∃ y_ : List (S26), y_ = (x7_2.set (x15_2 : Int).toNat (⟨(rd_T26 x7_2 x15_2).f0, (rd_T26 x7_2 x15_2).f1, (rd_T26 x7_2 x15_2).f2, (rd_T26 x7_2 x15_2).f3, (rd_T26 x7_2 x15_2).f4, (rd_T26 x7_2 x15_2).f5, wrap64 (1 + (Int.tmod (wrap64 ((wrap64 (x15_2 * t140)) + t141)) (x7_1.length : Int)))⟩ : S26)) := ⟨_, rfl⟩
                      replace H : (cadencyref04_Set.l1 k2 a2 y142 (x7_1.length : Int) (wrap64 (x15_2 + 1))) = some r := by first | (rw [hy142]; with_reducible exact H) | (have H2_ := (Option.bind_some _ _).symm.trans H; rw [hy142]; with_reducible exact H2_) | (have H2_ := (Option.bind_some _ _).symm.trans H; with_reducible exact H2_) | with_reducible exact H | (rw [hy142]; exact H) | exact H
                      have Ny142 := Aside0.mk hy142
                      clear hy142
                      have H' := Aside0.mk H
                      clear H
                      go_wp2_with (first | ((with_reducible refine gate_callee (f := 21) rfl ?_); refine goesL_ (some 101) rfl rfl Try.func21 (by kernel_rfl) rfl #[.int .i64 (x7_1.length : Int), .int .i64 a2] rfl (by (try simp only [List.map_toArray, List.map_cons, List.map_nil]); first | done | rfl | (simp only [List.length_drop, List.length_take]; rfl) | (simp only [← hl7_2]; rfl)) ?_; (with_reducible refine (cadencyref04_turns.calls (x7_1.length : Int) a2 t140 _ A36.out).mono ?_); rintro e w' ⟨rfl, ⟨nd, rfl⟩⟩; refine ⟨_, rfl, ?_⟩; (try (rw [drewN_self wr]; generalize hq_ : World.drewN wr _ = wr; have n0_ : Aside0 (Kd.R k26 26 wr w.heap.size (fun k_ => (w.heap.size ≤ k_)) (.slice Ao34 x7_2.length co34) x7_2) := ⟨by rw [← hq_]; exact (by (with_reducible repeat (first | apply Kd.R_alloc | apply Kd.R_drewN | apply Kd.R_drew)); exact HO_7.out)⟩; have n1_ : Aside0 (Below w.heap.size w wr) := ⟨by rw [← hq_]; exact (by repeat (first | (with_reducible first | exact HB.out | apply below_alloc | apply pw_below_drewN | apply below_drew1) | exact HB.out))⟩; clear HO_7 HB hq_; have HO_7 := n0_; have HB := n1_; clear n0_ n1_))) | ((with_reducible refine gate_callee (f := 20) rfl ?_); refine goesL_ (some 105) rfl rfl Try.func20 (by kernel_rfl) rfl #[.int .i64 a2, .int .i64 (x7_1.length : Int)] rfl (by (try simp only [List.map_toArray, List.map_cons, List.map_nil]); first | done | rfl | (simp only [List.length_drop, List.length_take]; rfl) | (simp only [← hl7_2]; rfl)) ?_; (with_reducible refine (cadencyref04_rest.calls a2 (x7_1.length : Int) t141 _ A37.out).mono ?_); rintro e w' ⟨rfl, ⟨nd, rfl⟩⟩; refine ⟨_, rfl, ?_⟩; (try (rw [drewN_self wr]; generalize hq_ : World.drewN wr _ = wr; have n0_ : Aside0 (Kd.R k26 26 wr w.heap.size (fun k_ => (w.heap.size ≤ k_)) (.slice Ao34 x7_2.length co34) x7_2) := ⟨by rw [← hq_]; exact (by (with_reducible repeat (first | apply Kd.R_alloc | apply Kd.R_drewN | apply Kd.R_drew)); exact HO_7.out)⟩; have n1_ : Aside0 (Below w.heap.size w wr) := ⟨by rw [← hq_]; exact (by repeat (first | (with_reducible first | exact HB.out | apply below_alloc | apply pw_below_drewN | apply below_drew1) | exact HB.out))⟩; clear HO_7 HB hq_; have HO_7 := n0_; have HB := n1_; clear n0_ n1_)); have p41 : 0 ≤ (x15_2 : Int) := of_decide_eq_true (by first | (with_reducible assumption) | assumption); have q41 : (x15_2 : Int) < ((x7_2.length : Int) : Int) := of_decide_eq_true (by first | (with_reducible assumption) | assumption); obtain ⟨go41, co41, eo41, gb41, gl41, cl41, HG41⟩ := Kd.R_form HO_7.out (by omega); (first | cases eo41 | (injection eo41 with ea_ en_ ec_; (first | subst ea_ | (injection ea_ with ea_; subst ea_)); subst ec_; clear en_)); have GB41 := Aside0.mk gb41; have GG41 := Aside0.mk HG41; clear gb41 gl41 HG41; obtain ⟨ce41, hcl41, hM41, hcc41, hfr41⟩ := Kd.R_elem HO_7.out z26 (x15_2 : Int) p41 q41; obtain rfl := k26_openM hM41; have hx41_0 : wr.cell? ⟨go41, (x15_2 : Int).toNat * 7, none⟩ = some (.string ((rd_T26 x7_2 x15_2).f0)) := hcc41 0 _ rfl; have hx41_1 : wr.cell? ⟨go41, (x15_2 : Int).toNat * 7 + 1, none⟩ = some (.int .i64 ((rd_T26 x7_2 x15_2).f1)) := hcc41 1 _ rfl; have hx41_2 : wr.cell? ⟨go41, (x15_2 : Int).toNat * 7 + 2, none⟩ = some (.int .i64 ((rd_T26 x7_2 x15_2).f2)) := hcc41 2 _ rfl; have hx41_3 : wr.cell? ⟨go41, (x15_2 : Int).toNat * 7 + 3, none⟩ = some (.int .i64 ((rd_T26 x7_2 x15_2).f3)) := hcc41 3 _ rfl; have hx41_4 : wr.cell? ⟨go41, (x15_2 : Int).toNat * 7 + 4, none⟩ = some (.int .i64 ((rd_T26 x7_2 x15_2).f4)) := hcc41 4 _ rfl; have hx41_5 : wr.cell? ⟨go41, (x15_2 : Int).toNat * 7 + 5, none⟩ = some (.int .i64 ((rd_T26 x7_2 x15_2).f5)) := hcc41 5 _ rfl; have hx41_6 : wr.cell? ⟨go41, (x15_2 : Int).toNat * 7 + 6, none⟩ = some (.int .i64 ((rd_T26 x7_2 x15_2).f6)) := hcc41 6 _ rfl; have hf41_0 : wr.frozen? ⟨go41, (x15_2 : Int).toNat * 7, none⟩ = false := hfr41 0; have hf41_1 : wr.frozen? ⟨go41, (x15_2 : Int).toNat * 7 + 1, none⟩ = false := hfr41 1; have hf41_2 : wr.frozen? ⟨go41, (x15_2 : Int).toNat * 7 + 2, none⟩ = false := hfr41 2; have hf41_3 : wr.frozen? ⟨go41, (x15_2 : Int).toNat * 7 + 3, none⟩ = false := hfr41 3; have hf41_4 : wr.frozen? ⟨go41, (x15_2 : Int).toNat * 7 + 4, none⟩ = false := hfr41 4; have hf41_5 : wr.frozen? ⟨go41, (x15_2 : Int).toNat * 7 + 5, none⟩ = false := hfr41 5; have hf41_6 : wr.frozen? ⟨go41, (x15_2 : Int).toNat * 7 + 6, none⟩ = false := hfr41 6; clear hcl41 hcc41 hfr41 hM41; replace p41 := eq_true p41; replace q41 := eq_true q41; have HX42 := Aside0.mk (show Kd.R k26 26 wr w.heap.size (fun k_ => (w.heap.size ≤ k_)) (.slice (some ⟨go41, 0, none⟩) x7_2.length co34) x7_2 from (by (with_reducible repeat (first | apply Kd.R_alloc | apply Kd.R_drewN | apply Kd.R_drew)); exact HO_7.out)); obtain ⟨ce42, hcl42, hM42, hcc42, hfr42⟩ := Kd.R_elem HX42.out z26 (x15_2 : Int) (of_decide_eq_true (by first | (with_reducible assumption) | assumption)) (by have h_ : (x15_2 : Int) < ((x7_2.length : Int) : Int) := of_decide_eq_true (by first | (with_reducible assumption) | assumption); first | exact h_ | (have e_ := (Kd.R_reads' HO_7.out).1; omega) | simpa using h_); obtain rfl := k26_openM hM42; have HP42 := Kd.R_seg HX42.out (x15_2 : Int) (of_decide_eq_true (by first | (with_reducible assumption) | assumption)) (by have h_ : (x15_2 : Int) < ((x7_2.length : Int) : Int) := of_decide_eq_true (by first | (with_reducible assumption) | assumption); first | exact h_ | (have e_ := (Kd.R_reads' HO_7.out).1; omega) | simpa using h_) (seg := [.int .i64 (wrap64 (1 + (Int.tmod (wrap64 ((wrap64 (x15_2 * t140)) + t141)) (x7_1.length : Int))))]) (j := 6) hcl42 hcc42 (show 7 ≤ 7 from by decide) (x' := (⟨(rd_T26 x7_2 x15_2).f0, (rd_T26 x7_2 x15_2).f1, (rd_T26 x7_2 x15_2).f2, (rd_T26 x7_2 x15_2).f3, (rd_T26 x7_2 x15_2).f4, (rd_T26 x7_2 x15_2).f5, wrap64 (1 + (Int.tmod (wrap64 ((wrap64 (x15_2 * t140)) + t141)) (x7_1.length : Int)))⟩ : S26)) (k26_mkM _ _ _ (⟨(rd_T26 x7_2 x15_2).f0, (rd_T26 x7_2 x15_2).f1, (rd_T26 x7_2 x15_2).f2, (rd_T26 x7_2 x15_2).f3, (rd_T26 x7_2 x15_2).f4, (rd_T26 x7_2 x15_2).f5, wrap64 (1 + (Int.tmod (wrap64 ((wrap64 (x15_2 * t140)) + t141)) (x7_1.length : Int)))⟩ : S26) ) (fun _ hk => hk); have hx42_6 := hcc42 6 _ rfl; (try simp only [show (k26).sz = 7 from rfl, Nat.mul_one, Nat.add_zero] at hx42_6); have hf42_6 := hfr42 6; (try simp only [show (k26).sz = 7 from rfl, Nat.mul_one, Nat.add_zero] at hf42_6); clear hcl42 hcc42 hfr42 hM42) | ((with_reducible refine gate_store (t := 3) (p := 111) rfl ?_); refine store_event (t := 3) (p := 111) (v := ?vo_w43) (w1 := (wr.setCell ⟨go41, (x15_2 : Int).toNat * 7 + 6, none⟩ (.int .i64 (wrap64 (1 + (Int.tmod (wrap64 ((wrap64 (x15_2 * t140)) + t141)) (x7_1.length : Int))))))) ?hg ?ho ?hn ?hr ?_; (case ho => rfl); (case hg => rfl); (case hn => rfl); (case hr => first | (go_simp; done) | (go_simp; rfl)); intro w43 hw; have hg : wr.grownBy w43 (some go41) := (by rw [hw]; exact HP42.2); have hp_ : Kd.R k26 26 w43 w.heap.size (fun k_ => (w.heap.size ≤ k_)) (.slice (some ⟨go41, 0, none⟩) x7_2.length co34) y142 := (by rw [hw, Ny142.out]; exact HP42.1); clear HP42; have n0_ := Aside0.mk (hp_); have n1_ := Aside0.mk ((by rw [hw]; exact below_set (HB.out) GB41.out : Below w.heap.size w w43)); clear HO_7; clear HB; have HO_7 := n0_; have HB := n1_; clear n0_ n1_; clear hg hw hp_))
                      (try simp only [← hl7_2])
                      go_roundg k2
                      case measure => have := HK1.out; have := HK2.out; omega
                      case rel => exact ⟨(y142), (wrap64 (x15_2 + 1)), (by first | rfl | (simp; done) | (simp [*]; done)), H', ⟨by have := HK1.out; have := HK2.out; omega⟩, ⟨by (try simp only [hl7_2]); (with_reducible repeat (first | apply Kd.R_alloc | apply Kd.R_drewN | apply Kd.R_drew)); exact HO_7.out⟩, ⟨by repeat (first | (with_reducible first | exact HB.out | apply below_alloc | apply pw_below_drewN | apply below_drew1) | exact HB.out)⟩⟩
                    · rw [if_neg c40] at H
                      exact absurd H (by simp)
                  · rw [if_neg c39] at H
                    exact absurd H (by simp)
              · rw [if_neg c35] at H
                have c35b0 : decide (x15_2 < (x7_1.length : Int)) = false := decide_eq_false c35
                (try (have c35b0_h := c35b0; simp only [hl7_2] at c35b0_h))
                clear c35
                obtain rfl := Option.some.inj H
                go_wp2
                go_ret
                exact ⟨_, by first | rfl | (simp [errW_none, errW_some] <;> rfl) | (simp [*, errW_none, errW_some] <;> rfl), by (with_reducible repeat (first | apply Kd.R_alloc | apply Kd.R_drewN | apply Kd.R_drew)); exact HO_7.out, by repeat (first | (with_reducible first | exact HB.out | apply below_alloc | apply pw_below_drewN | apply below_drew1) | exact HB.out)⟩
  · rw [if_neg c4] at H
    have c4b0 : ((l0.length : Int) == 0) = false := beq_eq_false_iff_ne.mpr c4
    have c4b1 : ((l0.length : Int) != 0) = true := bne_iff_ne.mpr c4
    have c4b2 : ¬ (l0 = []) := fun h_ => c4 (by rw [h_]; rfl)
    have H' := Aside0.mk H
    clear H
    go_enter Try.func10, Try.ntmps10
    go_wp2
    go_loopg [7, 8] k (fun kq v7 v8 w' => ∃ (x7_1 : List (S26)) (x8_1 : Int), v8 = .int .i64 x8_1 ∧ Aside0 (cadencyref04_Set.l0 kq l0 a1 a2 x7_1 x8_1 = some r) ∧ Aside0 (kq ≤ k) ∧ Aside0 (Kd.V k51 51 w' w.heap.size (fun k_ => (P0_ k_ ∨ w.heap.size ≤ k_) ∧ some k_ ≠ (v7 : Value).ownBlock) (.slice A0 l0.length c0) l0) ∧ Aside0 (Kd.R k26 26 w' w.heap.size (fun k_ => (w.heap.size ≤ k_)) v7 x7_1) ∧ Aside0 (Below w.heap.size w w'))
    case atStart => exact ⟨(([] : List (S26))), (0), (by first | rfl | (simp; done) | (simp [*]; done)), H', ⟨Nat.le_refl _⟩, ⟨by (with_reducible repeat (first | apply Kd.V_alloc | apply Kd.V_drewN | apply Kd.V_drew)); exact Kd.V_mono HO0.out (fun _ hk => ⟨hk, (by simp [Value.ownBlock])⟩)⟩, ⟨by first | exact Kd.R_nil _ _ _ _ _ | exact Kd.N_nil _ _ _ _ _ | exact Kd.V_nil _ _ _ _ _ | exact Kd.Q_nil _ _ _ _ _ | exact Kd.S_nil _ _ _ _ _⟩, ⟨by repeat (first | (with_reducible first | exact HB.out | apply below_alloc | apply pw_below_drewN | apply below_drew1) | exact HB.out)⟩⟩
    case round =>
      clear H'
      try clear c1
      try clear p1
      try clear q1
      try clear hx1
      try clear c2
      try clear p2
      try clear hcv2
      try clear c3
      try clear p3
      try clear q3
      try clear hx3
      try clear hf3
      try clear c4
      try clear c4b0
      try clear c4b1
      try clear c4b2
      try clear p4
      try clear q4
      try clear hx4
      try clear hf4
      try clear c5
      try clear p6
      try clear c7
      try clear c7b0
      try clear c8
      try clear c8b0
      try clear c9
      try clear c9b0
      try clear c10
      try clear p12
      try clear q12
      try clear hx12
      try clear p13
      try clear q13
      try clear hx13
      try clear c15
      try clear c15b0
      try clear c15b1
      try clear c15b2
      try clear c16
      try clear c20
      try clear hcv20
      try clear c21
      try clear c24
      try clear c24b0
      try clear c27
      try clear c27b0
      try clear c27b1
      try clear c27b2
      try clear c28
      try clear c28b0
      try clear c29
      try clear c29b0
      try clear c30
      try clear p30
      try clear q30
      try clear hx30
      try clear hf30
      try clear c31
      try clear hx31
      try clear hf31
      try clear c35
      try clear c35b0
      try clear c38
      try clear c38b0
      try clear c38b1
      try clear c38b2
      try clear c39
      try clear c39b0
      try clear c40
      try clear c40b0
      try clear c41
      try clear p41
      try clear q41
      try clear hx41
      try clear hf41
      try clear c42
      try clear hx42
      try clear hf42
      try clear hx124_0
      try clear hx124_1
      try clear hx124_2
      try clear hx124_3
      try clear hx124_4
      try clear hx126_0
      try clear hx126_1
      try clear hx126_2
      try clear hx126_3
      try clear hx126_4
      try clear hx128_0
      try clear hx128_1
      try clear hx128_2
      try clear hx128_3
      try clear hx128_4
      try clear hx130_0
      try clear hx130_1
      try clear hx130_2
      try clear hx130_3
      try clear hx130_4
      try clear hx132_0
      try clear hx132_1
      try clear hx132_2
      try clear hx132_3
      try clear hx132_4
      try clear hx30_0
      try clear hx30_1
      try clear hx30_2
      try clear hx30_3
      try clear hx30_4
      try clear hx30_5
      try clear hx30_6
      try clear hx31_6
      try clear hx41_0
      try clear hx41_1
      try clear hx41_2
      try clear hx41_3
      try clear hx41_4
      try clear hx41_5
      try clear hx41_6
      try clear hx42_6
      try clear p1
      try clear p12
      try clear p124
      try clear p126
      try clear p128
      try clear p13
      try clear p130
      try clear p132
      try clear p2
      try clear p3
      try clear p30
      try clear p41
      try clear p6
      try clear q1
      try clear q12
      try clear q124
      try clear q126
      try clear q128
      try clear q13
      try clear q130
      try clear q132
      try clear q3
      try clear q30
      try clear q41
      obtain ⟨x7_1, x8_1, rfl, HA, HK1, HO_0, HO_7, HB⟩ := hrel
      cases gk with
      | zero => exact absurd HA.out (by simp [cadencyref04_Set.l0])
      | succ k1 =>
        have H := HA.out
        clear HA
        simp only [cadencyref04_Set.l0] at H
        by_cases c44 : x8_1 < (l0.length : Int)
        · rw [if_pos c44] at H
          have c44b0 : decide (x8_1 < (l0.length : Int)) = true := decide_eq_true c44
          clear c44
          by_cases c45 : x8_1 < a1
          · rw [if_pos c45] at H
            have c45b0 : decide (x8_1 < a1) = true := decide_eq_true c45
            clear c45
            by_cases c46 : 0 ≤ x8_1
            · rw [if_pos c46] at H
              have c46b0 : decide (0 ≤ x8_1) = true := decide_eq_true c46
              clear c46
              replace H := Option.bind_eq_some_iff.mp H
              obtain ⟨t125, A470, H⟩ := H
              replace H : ((cadencyref04_rest.f ((rd_T51 l0 x8_1).f1) 11).bind fun t127 => ((cadencyref04_rest.f ((rd_T51 l0 x8_1).f2) (wrap64 ((wrap64 ((wrap64 ((wrap64 (1 + t125)) + t127)) - (wrap64 (1 + t125)))) + 1))).bind fun t129 => ((cadencyref04_rest.f ((rd_T51 l0 x8_1).f4) 7).bind fun t131 => ((cadencyref04_rest.f ((rd_T51 l0 x8_1).f3) (wrap64 (1 + t125))).bind fun t133 => ((some (([(wrap64 (97 + x8_1)) % 256] : List Int) : List Int)).bind fun y134 => (if 1 + (strOfNums y134).size ≤ 9223372036854775807 then (if x7_1.length < 2199023255552 then (cadencyref04_Set.l0 k1 l0 a1 a2 (x7_1 ++ [(⟨(⟨#[116]⟩ : ByteArray) ++ (strOfNums y134), wrap64 (1 + t125), wrap64 ((wrap64 ((wrap64 (1 + t125)) + t127)) + t131), wrap64 ((wrap64 (1 + t125)) + t127), t129, wrap64 (1 + t133), 0⟩ : S26)]) (wrap64 (x8_1 + 1))) else (none)) else (none))))))) = some r := H
              have A47 := Aside0.mk A470
              clear A470
              replace H := Option.bind_eq_some_iff.mp H
              obtain ⟨t127, A480, H⟩ := H
              replace H : ((cadencyref04_rest.f ((rd_T51 l0 x8_1).f2) (wrap64 ((wrap64 ((wrap64 ((wrap64 (1 + t125)) + t127)) - (wrap64 (1 + t125)))) + 1))).bind fun t129 => ((cadencyref04_rest.f ((rd_T51 l0 x8_1).f4) 7).bind fun t131 => ((cadencyref04_rest.f ((rd_T51 l0 x8_1).f3) (wrap64 (1 + t125))).bind fun t133 => ((some (([(wrap64 (97 + x8_1)) % 256] : List Int) : List Int)).bind fun y134 => (if 1 + (strOfNums y134).size ≤ 9223372036854775807 then (if x7_1.length < 2199023255552 then (cadencyref04_Set.l0 k1 l0 a1 a2 (x7_1 ++ [(⟨(⟨#[116]⟩ : ByteArray) ++ (strOfNums y134), wrap64 (1 + t125), wrap64 ((wrap64 ((wrap64 (1 + t125)) + t127)) + t131), wrap64 ((wrap64 (1 + t125)) + t127), t129, wrap64 (1 + t133), 0⟩ : S26)]) (wrap64 (x8_1 + 1))) else (none)) else (none)))))) = some r := H
              have A48 := Aside0.mk A480
              clear A480
              replace H := Option.bind_eq_some_iff.mp H
              obtain ⟨t129, A490, H⟩ := H
              replace H : ((cadencyref04_rest.f ((rd_T51 l0 x8_1).f4) 7).bind fun t131 => ((cadencyref04_rest.f ((rd_T51 l0 x8_1).f3) (wrap64 (1 + t125))).bind fun t133 => ((some (([(wrap64 (97 + x8_1)) % 256] : List Int) : List Int)).bind fun y134 => (if 1 + (strOfNums y134).size ≤ 9223372036854775807 then (if x7_1.length < 2199023255552 then (cadencyref04_Set.l0 k1 l0 a1 a2 (x7_1 ++ [(⟨(⟨#[116]⟩ : ByteArray) ++ (strOfNums y134), wrap64 (1 + t125), wrap64 ((wrap64 ((wrap64 (1 + t125)) + t127)) + t131), wrap64 ((wrap64 (1 + t125)) + t127), t129, wrap64 (1 + t133), 0⟩ : S26)]) (wrap64 (x8_1 + 1))) else (none)) else (none))))) = some r := H
              have A49 := Aside0.mk A490
              clear A490
              replace H := Option.bind_eq_some_iff.mp H
              obtain ⟨t131, A500, H⟩ := H
              replace H : ((cadencyref04_rest.f ((rd_T51 l0 x8_1).f3) (wrap64 (1 + t125))).bind fun t133 => ((some (([(wrap64 (97 + x8_1)) % 256] : List Int) : List Int)).bind fun y134 => (if 1 + (strOfNums y134).size ≤ 9223372036854775807 then (if x7_1.length < 2199023255552 then (cadencyref04_Set.l0 k1 l0 a1 a2 (x7_1 ++ [(⟨(⟨#[116]⟩ : ByteArray) ++ (strOfNums y134), wrap64 (1 + t125), wrap64 ((wrap64 ((wrap64 (1 + t125)) + t127)) + t131), wrap64 ((wrap64 (1 + t125)) + t127), t129, wrap64 (1 + t133), 0⟩ : S26)]) (wrap64 (x8_1 + 1))) else (none)) else (none)))) = some r := H
              have A50 := Aside0.mk A500
              clear A500
              replace H := Option.bind_eq_some_iff.mp H
              obtain ⟨t133, A510, H⟩ := H
              replace H : ((some (([(wrap64 (97 + x8_1)) % 256] : List Int) : List Int)).bind fun y134 => (if 1 + (strOfNums y134).size ≤ 9223372036854775807 then (if x7_1.length < 2199023255552 then (cadencyref04_Set.l0 k1 l0 a1 a2 (x7_1 ++ [(⟨(⟨#[116]⟩ : ByteArray) ++ (strOfNums y134), wrap64 (1 + t125), wrap64 ((wrap64 ((wrap64 (1 + t125)) + t127)) + t131), wrap64 ((wrap64 (1 + t125)) + t127), t129, wrap64 (1 + t133), 0⟩ : S26)]) (wrap64 (x8_1 + 1))) else (none)) else (none))) = some r := H
              have A51 := Aside0.mk A510
              clear A510
              obtain ⟨y134, hy134⟩ : ∃ y_ : List Int, y_ = (([(wrap64 (97 + x8_1)) % 256] : List Int)) := ⟨_, rfl⟩
              replace H : (if 1 + (strOfNums y134).size ≤ 9223372036854775807 then (if x7_1.length < 2199023255552 then (cadencyref04_Set.l0 k1 l0 a1 a2 (x7_1 ++ [(⟨(⟨#[116]⟩ : ByteArray) ++ (strOfNums y134), wrap64 (1 + t125), wrap64 ((wrap64 ((wrap64 (1 + t125)) + t127)) + t131), wrap64 ((wrap64 (1 + t125)) + t127), t129, wrap64 (1 + t133), 0⟩ : S26)]) (wrap64 (x8_1 + 1))) else (none)) else (none)) = some r := by first | (rw [hy134]; with_reducible exact H) | (have H2_ := (Option.bind_some _ _).symm.trans H; rw [hy134]; with_reducible exact H2_) | (have H2_ := (Option.bind_some _ _).symm.trans H; with_reducible exact H2_) | with_reducible exact H | (rw [hy134]; exact H) | exact H
              have Ny134 := Aside0.mk hy134
              clear hy134
              by_cases c52 : 1 + (strOfNums y134).size ≤ 9223372036854775807
              · rw [if_pos c52] at H
                have c52b0 := eq_true c52
                have c52b1 : decide (1 + (strOfNums y134).size ≤ 9223372036854775807) = true := decide_eq_true c52
                try have c52b2 : (9223372036854775807 < 1 + (strOfNums y134).size) = False := eq_false (Nat.not_lt.2 c52)
                by_cases c53 : x7_1.length < 2199023255552
                · rw [if_pos c53] at H
                  have LMc53 := Aside0.mk c53
                  clear c53
                  obtain ⟨y137, hy137⟩ : ∃ y_ : List (S26), y_ = (x7_1 ++ [(⟨(⟨#[116]⟩ : ByteArray) ++ (strOfNums y134), wrap64 (1 + t125), wrap64 ((wrap64 ((wrap64 (1 + t125)) + t127)) + t131), wrap64 ((wrap64 (1 + t125)) + t127), t129, wrap64 (1 + t133), 0⟩ : S26)]) := ⟨_, rfl⟩
                  replace H : (cadencyref04_Set.l0 k1 l0 a1 a2 y137 (wrap64 (x8_1 + 1))) = some r := by first | (rw [hy137]; with_reducible exact H) | (have H2_ := (Option.bind_some _ _).symm.trans H; rw [hy137]; with_reducible exact H2_) | (have H2_ := (Option.bind_some _ _).symm.trans H; with_reducible exact H2_) | with_reducible exact H | (rw [hy137]; exact H) | exact H
                  have Ny137 := Aside0.mk hy137
                  clear hy137
                  have H' := Aside0.mk H
                  clear H
                  have p124 : 0 ≤ (x8_1 : Int) := of_decide_eq_true (by first | (with_reducible assumption) | assumption)
                  have q124 : x8_1 < (l0.length : Int) := of_decide_eq_true (by first | (with_reducible assumption) | assumption)
                  obtain ⟨ad124, e124, hx124_0, hx124_1, hx124_2, hx124_3, hx124_4⟩ := at_T51 (Kd.V_reads' HO_0.out).2.2 x8_1 p124 q124
                  cases e124
                  replace p124 := eq_true p124
                  replace q124 := eq_true q124
                  go_wp2_with (first | ((with_reducible refine gate_callee (f := 20) rfl ?_); refine goesL_ (some 38) rfl rfl Try.func20 (by kernel_rfl) rfl #[.int .i64 ((rd_T51 l0 x8_1).f0), .int .i64 4] rfl (by (try simp only [List.map_toArray, List.map_cons, List.map_nil]); first | done | rfl | (simp only [List.length_drop, List.length_take]; rfl) | (simp only [← hl7_2]; rfl)) ?_; (with_reducible refine (cadencyref04_rest.calls ((rd_T51 l0 x8_1).f0) 4 t125 _ A47.out).mono ?_); rintro e w' ⟨rfl, ⟨nd, rfl⟩⟩; refine ⟨_, rfl, ?_⟩; have p126 : 0 ≤ (x8_1 : Int) := of_decide_eq_true (by first | (with_reducible assumption) | assumption); have q126 : x8_1 < (l0.length : Int) := of_decide_eq_true (by first | (with_reducible assumption) | assumption); obtain ⟨ad126, e126, hx126_0, hx126_1, hx126_2, hx126_3, hx126_4⟩ := at_T51 (Kd.V_reads' HO_0.out).2.2 x8_1 p126 q126; obtain rfl : ad124 = ad126 := (by injection e126); replace p126 := eq_true p126; replace q126 := eq_true q126) | ((with_reducible refine gate_callee (f := 20) rfl ?_); refine goesL_ (some 46) rfl rfl Try.func20 (by kernel_rfl) rfl #[.int .i64 ((rd_T51 l0 x8_1).f1), .int .i64 11] rfl (by (try simp only [List.map_toArray, List.map_cons, List.map_nil]); first | done | rfl | (simp only [List.length_drop, List.length_take]; rfl) | (simp only [← hl7_2]; rfl)) ?_; (with_reducible refine (cadencyref04_rest.calls ((rd_T51 l0 x8_1).f1) 11 t127 _ A48.out).mono ?_); rintro e w' ⟨rfl, ⟨nd, rfl⟩⟩; refine ⟨_, rfl, ?_⟩; have p128 : 0 ≤ (x8_1 : Int) := of_decide_eq_true (by first | (with_reducible assumption) | assumption); have q128 : x8_1 < (l0.length : Int) := of_decide_eq_true (by first | (with_reducible assumption) | assumption); obtain ⟨ad128, e128, hx128_0, hx128_1, hx128_2, hx128_3, hx128_4⟩ := at_T51 (Kd.V_reads' HO_0.out).2.2 x8_1 p128 q128; obtain rfl : ad124 = ad128 := (by injection e128); replace p128 := eq_true p128; replace q128 := eq_true q128) | ((with_reducible refine gate_callee (f := 20) rfl ?_); refine goesL_ (some 57) rfl rfl Try.func20 (by kernel_rfl) rfl #[.int .i64 ((rd_T51 l0 x8_1).f2), .int .i64 (wrap64 ((wrap64 ((wrap64 ((wrap64 (1 + t125)) + t127)) - (wrap64 (1 + t125)))) + 1))] rfl (by (try simp only [List.map_toArray, List.map_cons, List.map_nil]); first | done | rfl | (simp only [List.length_drop, List.length_take]; rfl) | (simp only [← hl7_2]; rfl)) ?_; (with_reducible refine (cadencyref04_rest.calls ((rd_T51 l0 x8_1).f2) (wrap64 ((wrap64 ((wrap64 ((wrap64 (1 + t125)) + t127)) - (wrap64 (1 + t125)))) + 1)) t129 _ A49.out).mono ?_); rintro e w' ⟨rfl, ⟨nd, rfl⟩⟩; refine ⟨_, rfl, ?_⟩; have p130 : 0 ≤ (x8_1 : Int) := of_decide_eq_true (by first | (with_reducible assumption) | assumption); have q130 : x8_1 < (l0.length : Int) := of_decide_eq_true (by first | (with_reducible assumption) | assumption); obtain ⟨ad130, e130, hx130_0, hx130_1, hx130_2, hx130_3, hx130_4⟩ := at_T51 (Kd.V_reads' HO_0.out).2.2 x8_1 p130 q130; obtain rfl : ad124 = ad130 := (by injection e130); replace p130 := eq_true p130; replace q130 := eq_true q130) | ((with_reducible refine gate_callee (f := 20) rfl ?_); refine goesL_ (some 64) rfl rfl Try.func20 (by kernel_rfl) rfl #[.int .i64 ((rd_T51 l0 x8_1).f4), .int .i64 7] rfl (by (try simp only [List.map_toArray, List.map_cons, List.map_nil]); first | done | rfl | (simp only [List.length_drop, List.length_take]; rfl) | (simp only [← hl7_2]; rfl)) ?_; (with_reducible refine (cadencyref04_rest.calls ((rd_T51 l0 x8_1).f4) 7 t131 _ A50.out).mono ?_); rintro e w' ⟨rfl, ⟨nd, rfl⟩⟩; refine ⟨_, rfl, ?_⟩; have p132 : 0 ≤ (x8_1 : Int) := of_decide_eq_true (by first | (with_reducible assumption) | assumption); have q132 : x8_1 < (l0.length : Int) := of_decide_eq_true (by first | (with_reducible assumption) | assumption); obtain ⟨ad132, e132, hx132_0, hx132_1, hx132_2, hx132_3, hx132_4⟩ := at_T51 (Kd.V_reads' HO_0.out).2.2 x8_1 p132 q132; obtain rfl : ad124 = ad132 := (by injection e132); replace p132 := eq_true p132; replace q132 := eq_true q132) | ((with_reducible refine gate_callee (f := 20) rfl ?_); refine goesL_ (some 72) rfl rfl Try.func20 (by kernel_rfl) rfl #[.int .i64 ((rd_T51 l0 x8_1).f3), .int .i64 (wrap64 (1 + t125))] rfl (by (try simp only [List.map_toArray, List.map_cons, List.map_nil]); first | done | rfl | (simp only [List.length_drop, List.length_take]; rfl) | (simp only [← hl7_2]; rfl)) ?_; (with_reducible refine (cadencyref04_rest.calls ((rd_T51 l0 x8_1).f3) (wrap64 (1 + t125)) t133 _ A51.out).mono ?_); rintro e w' ⟨rfl, ⟨nd, rfl⟩⟩; refine ⟨_, rfl, ?_⟩) | ((with_reducible refine gate_dst (N := 78) rfl ?_); refine Kd.R_lit (Kd.int .u8) _ 5 ?hg (N := 78) ?hd (xs := ([(wrap64 (97 + x8_1)) % 256] : List Int)) (inner := [.int .u8 ((wrap64 (97 + x8_1)) % 256)]) (ok := fun _ => True) (okp := fun _ => True) ?hr ?hp (fun _ hk => hk) trivial (Below.refl _ _) (Nat.le_refl _) (by simp) ?_; (case hd => rfl); (case hg => rfl); (case hr => first | (go_simp; done) | (go_simp; rfl)); (case hp => exact (Reps.one (show Kd.M (Kd.int .u8) _ _ _ ((wrap64 (97 + x8_1)) % 256) [.int .u8 ((wrap64 (97 + x8_1)) % 256)] from rfl) (Reps.none _ _))); intro v135 w54 ho55 hb hg_ hnew_; clear hg_ hnew_; (first | rw [← Ny134.out] at ho55 | (simp only [Int.reduceToNat] at ho55; rw [← Ny134.out] at ho55)); have n0_ := Aside0.mk (Kd.V_elder' (by (with_reducible repeat (first | apply Kd.V_alloc | apply Kd.V_drewN | apply Kd.V_drew)); exact HO_0.out) (Kd.R_base ho55) hb); have n1_ := Aside0.mk (Kd.R_below (by (with_reducible repeat (first | apply Kd.R_alloc | apply Kd.R_drewN | apply Kd.R_drew)); exact HO_7.out) hb); have n2_ := Aside0.mk (Kd.R_lower (Kd.R_newM (M := fun k_ => (w.heap.size ≤ k_)) ho55 (below_size (by repeat (first | (with_reducible first | exact HB.out | apply below_alloc | apply pw_below_drewN | apply below_drew1) | exact HB.out))) (fun k_ h_ => h_)) (below_size (by repeat (first | (with_reducible first | exact HB.out | apply below_alloc | apply pw_below_drewN | apply below_drew1) | exact HB.out)))); have n3_ := Aside0.mk (below_step (by repeat (first | (with_reducible first | exact HB.out | apply below_alloc | apply pw_below_drewN | apply below_drew1) | exact HB.out)) hb); clear HO_0; clear HO_7; clear HB; have HO_0 := n0_; have HO_7 := n1_; have HO136 := n2_; have HB := n3_; clear n0_ n1_ n2_ n3_; clear hb ho55; have hcv56 := own_string (P := Try.prog) Try.underlying40 Try.underlying5 Try.underlying9 (Kd.own_of_R HO136.out)) | ((with_reducible refine gate_builtin (b := .append) (xs := #[.tmp 74, .tmp 87]) rfl ?_); at_builtin; refine Kd.R_append k26 (w0 := w) w.heap.size rfl (.tmp 74) (.tmp 87) 30 26 (.agg #[(.string ⟨#[]⟩), (.int .i64 0), (.int .i64 0), (.int .i64 0), (.int .i64 0), (.int .i64 0), (.int .i64 0)]) 64 rfl Try.underlying30 info26 rfl (by decide) (by omega) u7 x7_1 (⟨(⟨#[116]⟩ : ByteArray) ++ (strOfNums y134), wrap64 (1 + t125), wrap64 ((wrap64 ((wrap64 (1 + t125)) + t127)) + t131), wrap64 ((wrap64 (1 + t125)) + t127), t129, wrap64 (1 + t133), 0⟩ : S26) [.string ((⟨#[116]⟩ : ByteArray) ++ (strOfNums y134)), .int .i64 (wrap64 (1 + t125)), .int .i64 (wrap64 ((wrap64 ((wrap64 (1 + t125)) + t127)) + t131)), .int .i64 (wrap64 ((wrap64 (1 + t125)) + t127)), .int .i64 t129, .int .i64 (wrap64 (1 + t133)), .int .i64 0] (fun k_ => (w.heap.size ≤ k_)) (fun _ => False) rfl rfl ?aP (fun _ hk => hk.elim) ?aF ?aO ?aB ?aS ?aL ?_; (case aP => exact k26_mkM _ _ _ (⟨(⟨#[116]⟩ : ByteArray) ++ (strOfNums y134), wrap64 (1 + t125), wrap64 ((wrap64 ((wrap64 (1 + t125)) + t127)) + t131), wrap64 ((wrap64 (1 + t125)) + t127), t129, wrap64 (1 + t133), 0⟩ : S26)); (case aB => exact (by repeat (first | (with_reducible first | exact HB.out | apply below_alloc | apply pw_below_drewN | apply below_drew1) | exact HB.out))); (case aF => exact (fun k_ hk => (Nat.le_trans (below_size (by repeat (first | (with_reducible first | exact HB.out | apply below_alloc | apply pw_below_drewN | apply below_drew1) | exact HB.out))) hk))); (case aO => exact (by (with_reducible repeat (first | apply Kd.R_alloc | apply Kd.R_drewN | apply Kd.R_drew)); exact HO_7.out)); (case aS => exact (below_size (by repeat (first | (with_reducible first | exact HB.out | apply below_alloc | apply pw_below_drewN | apply below_drew1) | exact HB.out)))); (case aL => have := LMc53.out; omega); intro v138 w57 ho hb hg hat; rw [← Ny137.out] at ho; have n0_ := Aside0.mk (Kd.V_afterv (ok := (fun k_ => (P0_ k_ ∨ w.heap.size ≤ k_) ∧ some k_ ≠ (v135 : Value).ownBlock)) (by (with_reducible repeat (first | apply Kd.V_alloc | apply Kd.V_drewN | apply Kd.V_drew)); exact Kd.V_mono HO_0.out (fun _ hk => ⟨⟨hk.1.1, hk.2⟩, hk.1.2⟩)) hg hat); have n1_ := Aside0.mk (Kd.R_over' (by (with_reducible repeat (first | apply Kd.R_alloc | apply Kd.R_drewN | apply Kd.R_drew)); exact HO136.out) (Kd.R_typed (by (with_reducible repeat (first | apply Kd.R_alloc | apply Kd.R_drewN | apply Kd.R_drew)); exact HO_7.out)) (by decide) hg); have n2_ := Aside0.mk (hb); have n3_ := Aside0.mk (ho); clear HO_0; clear HO136; clear HB; clear HO_7; have HO_0 := n0_; have HO136 := n1_; have HB := n2_; have HO139 := n3_; clear n0_ n1_ n2_ n3_; clear ho hb hg hat))
                  go_roundg k1
                  case measure => have := HK1.out; omega
                  case rel => exact ⟨(y137), (wrap64 (x8_1 + 1)), (by first | rfl | (simp; done) | (simp [*]; done)), H', ⟨by have := HK1.out; omega⟩, ⟨by (with_reducible repeat (first | apply Kd.V_alloc | apply Kd.V_drewN | apply Kd.V_drew)); exact Kd.V_mono HO_0.out (fun _ hk => ⟨hk.1.1, hk.2⟩)⟩, ⟨by (with_reducible repeat (first | apply Kd.R_alloc | apply Kd.R_drewN | apply Kd.R_drew)); exact HO139.out⟩, ⟨by repeat (first | (with_reducible first | exact HB.out | apply below_alloc | apply pw_below_drewN | apply below_drew1) | exact HB.out)⟩⟩
                · rw [if_neg c53] at H
                  exact absurd H (by simp)
              · rw [if_neg c52] at H
                exact absurd H (by simp)
            · rw [if_neg c46] at H
              exact absurd H (by simp)
          · rw [if_neg c45] at H
            have c45b0 : decide (x8_1 < a1) = false := decide_eq_false c45
            clear c45
            have H' := Aside0.mk H
            clear H
            obtain ⟨Ao58, co58, eo58⟩ := Kd.R_slice HO_7.out
            subst eo58
            go_wp2
            go_loopg [15] k1 (fun kq v15 w' => ∃ (x7_2 : List (S26)) (x15_2 : Int), v15 = .int .i64 x15_2 ∧ Aside0 (cadencyref04_Set.l1 kq a2 x7_2 (x7_1.length : Int) x15_2 = some r) ∧ Aside0 (kq ≤ k1) ∧ Aside0 (Kd.R k26 26 w' w.heap.size (fun k_ => (w.heap.size ≤ k_)) (.slice Ao58 x7_1.length co58) x7_2) ∧ Aside0 (Below w.heap.size w w'))
            case atStart => exact ⟨(x7_1), (0), (by first | rfl | (simp; done) | (simp [*]; done)), H', ⟨Nat.le_refl _⟩, ⟨by (with_reducible repeat (first | apply Kd.R_alloc | apply Kd.R_drewN | apply Kd.R_drew)); exact HO_7.out⟩, ⟨by repeat (first | (with_reducible first | exact HB.out | apply below_alloc | apply pw_below_drewN | apply below_drew1) | exact HB.out)⟩⟩
            case round =>
              clear H'
              try clear c1
              try clear p1
              try clear q1
              try clear hx1
              try clear c2
              try clear p2
              try clear hcv2
              try clear c3
              try clear p3
              try clear q3
              try clear hx3
              try clear hf3
              try clear c4
              try clear c4b0
              try clear c4b1
              try clear c4b2
              try clear p4
              try clear q4
              try clear hx4
              try clear hf4
              try clear c5
              try clear hcv5
              try clear p6
              try clear c7
              try clear c7b0
              try clear c8
              try clear c8b0
              try clear c9
              try clear c9b0
              try clear c10
              try clear p12
              try clear q12
              try clear hx12
              try clear p13
              try clear q13
              try clear hx13
              try clear c15
              try clear c15b0
              try clear c15b1
              try clear c15b2
              try clear c16
              try clear c20
              try clear hcv20
              try clear c21
              try clear c24
              try clear c24b0
              try clear c27
              try clear c27b0
              try clear c27b1
              try clear c27b2
              try clear c28
              try clear c28b0
              try clear c29
              try clear c29b0
              try clear c30
              try clear p30
              try clear q30
              try clear hx30
              try clear hf30
              try clear c31
              try clear hx31
              try clear hf31
              try clear c35
              try clear c35b0
              try clear c38
              try clear c38b0
              try clear c38b1
              try clear c38b2
              try clear c39
              try clear c39b0
              try clear c40
              try clear c40b0
              try clear c41
              try clear p41
              try clear q41
              try clear hx41
              try clear hf41
              try clear c42
              try clear hx42
              try clear hf42
              try clear c44
              try clear c44b0
              try clear c45
              try clear c45b0
              try clear c46
              try clear c46b0
              try clear c52
              try clear c52b0
              try clear c52b1
              try clear c52b2
              try clear c53
              try clear hcv56
              try clear hx124_0
              try clear hx124_1
              try clear hx124_2
              try clear hx124_3
              try clear hx124_4
              try clear hx126_0
              try clear hx126_1
              try clear hx126_2
              try clear hx126_3
              try clear hx126_4
              try clear hx128_0
              try clear hx128_1
              try clear hx128_2
              try clear hx128_3
              try clear hx128_4
              try clear hx130_0
              try clear hx130_1
              try clear hx130_2
              try clear hx130_3
              try clear hx130_4
              try clear hx132_0
              try clear hx132_1
              try clear hx132_2
              try clear hx132_3
              try clear hx132_4
              try clear hx30_0
              try clear hx30_1
              try clear hx30_2
              try clear hx30_3
              try clear hx30_4
              try clear hx30_5
              try clear hx30_6
              try clear hx31_6
              try clear hx41_0
              try clear hx41_1
              try clear hx41_2
              try clear hx41_3
              try clear hx41_4
              try clear hx41_5
              try clear hx41_6
              try clear hx42_6
              try clear p1
              try clear p12
              try clear p124
              try clear p126
              try clear p128
              try clear p13
              try clear p130
              try clear p132
              try clear p2
              try clear p3
              try clear p30
              try clear p4
              try clear p41
              try clear p6
              try clear q1
              try clear q12
              try clear q124
              try clear q126
              try clear q128
              try clear q13
              try clear q130
              try clear q132
              try clear q3
              try clear q30
              try clear q4
              try clear q41
              obtain ⟨x7_2, x15_2, rfl, HA, HK2, HO_7, HB⟩ := hrel
              have hl7_2 := (Kd.R_reads' HO_7.out).1
              rw [hl7_2] at HO_7
              (try simp only [hl7_2])
              cases gk with
              | zero => exact absurd HA.out (by simp [cadencyref04_Set.l1])
              | succ k2 =>
                have H := HA.out
                clear HA
                simp only [cadencyref04_Set.l1] at H
                by_cases c59 : x15_2 < (x7_1.length : Int)
                · rw [if_pos c59] at H
                  have c59b0 : decide (x15_2 < (x7_1.length : Int)) = true := decide_eq_true c59
                  clear c59
                  replace H := Option.bind_eq_some_iff.mp H
                  obtain ⟨t140, A600, H⟩ := H
                  replace H : ((cadencyref04_rest.f a2 (x7_1.length : Int)).bind fun t141 => (if (x7_1.length : Int) = 0 then (none) else (if 0 ≤ x15_2 then (if x15_2 < (x7_2.length : Int) then (cadencyref04_Set.l1 k2 a2 (x7_2.set (x15_2 : Int).toNat (⟨(rd_T26 x7_2 x15_2).f0, (rd_T26 x7_2 x15_2).f1, (rd_T26 x7_2 x15_2).f2, (rd_T26 x7_2 x15_2).f3, (rd_T26 x7_2 x15_2).f4, (rd_T26 x7_2 x15_2).f5, wrap64 (1 + (Int.tmod (wrap64 ((wrap64 (x15_2 * t140)) + t141)) (x7_1.length : Int)))⟩ : S26)) (x7_1.length : Int) (wrap64 (x15_2 + 1))) else (none)) else (none)))) = some r := H
                  have A60 := Aside0.mk A600
                  clear A600
                  replace H := Option.bind_eq_some_iff.mp H
                  obtain ⟨t141, A610, H⟩ := H
                  replace H : (if (x7_1.length : Int) = 0 then (none) else (if 0 ≤ x15_2 then (if x15_2 < (x7_2.length : Int) then (cadencyref04_Set.l1 k2 a2 (x7_2.set (x15_2 : Int).toNat (⟨(rd_T26 x7_2 x15_2).f0, (rd_T26 x7_2 x15_2).f1, (rd_T26 x7_2 x15_2).f2, (rd_T26 x7_2 x15_2).f3, (rd_T26 x7_2 x15_2).f4, (rd_T26 x7_2 x15_2).f5, wrap64 (1 + (Int.tmod (wrap64 ((wrap64 (x15_2 * t140)) + t141)) (x7_1.length : Int)))⟩ : S26)) (x7_1.length : Int) (wrap64 (x15_2 + 1))) else (none)) else (none))) = some r := H
                  have A61 := Aside0.mk A610
                  clear A610
                  by_cases c62 : (x7_1.length : Int) = 0
                  · rw [if_pos c62] at H
                    exact absurd H (by simp)
                  · rw [if_neg c62] at H
                    have c62b0 : ((x7_1.length : Int) == 0) = false := beq_eq_false_iff_ne.mpr c62
                    have c62b1 : ((x7_1.length : Int) != 0) = true := bne_iff_ne.mpr c62
                    have c62b2 : ¬ (x7_1 = []) := fun h_ => c62 (by rw [h_]; rfl)
                    by_cases c63 : 0 ≤ x15_2
                    · rw [if_pos c63] at H
                      have c63b0 : decide (0 ≤ x15_2) = true := decide_eq_true c63
                      clear c63
                      by_cases c64 : x15_2 < (x7_2.length : Int)
                      · rw [if_pos c64] at H
                        have c64b0 : decide (x15_2 < (x7_2.length : Int)) = true := decide_eq_true c64
                        clear c64
                        obtain ⟨y142, hy142⟩ : ∃ y_ : List (S26), y_ = (x7_2.set (x15_2 : Int).toNat (⟨(rd_T26 x7_2 x15_2).f0, (rd_T26 x7_2 x15_2).f1, (rd_T26 x7_2 x15_2).f2, (rd_T26 x7_2 x15_2).f3, (rd_T26 x7_2 x15_2).f4, (rd_T26 x7_2 x15_2).f5, wrap64 (1 + (Int.tmod (wrap64 ((wrap64 (x15_2 * t140)) + t141)) (x7_1.length : Int)))⟩ : S26)) := ⟨_, rfl⟩
                        replace H : (cadencyref04_Set.l1 k2 a2 y142 (x7_1.length : Int) (wrap64 (x15_2 + 1))) = some r := by first | (rw [hy142]; with_reducible exact H) | (have H2_ := (Option.bind_some _ _).symm.trans H; rw [hy142]; with_reducible exact H2_) | (have H2_ := (Option.bind_some _ _).symm.trans H; with_reducible exact H2_) | with_reducible exact H | (rw [hy142]; exact H) | exact H
                        have Ny142 := Aside0.mk hy142
                        clear hy142
                        have H' := Aside0.mk H
                        clear H
                        go_wp2_with (first | ((with_reducible refine gate_callee (f := 21) rfl ?_); refine goesL_ (some 101) rfl rfl Try.func21 (by kernel_rfl) rfl #[.int .i64 (x7_1.length : Int), .int .i64 a2] rfl (by (try simp only [List.map_toArray, List.map_cons, List.map_nil]); first | done | rfl | (simp only [List.length_drop, List.length_take]; rfl) | (simp only [← hl7_2]; rfl)) ?_; (with_reducible refine (cadencyref04_turns.calls (x7_1.length : Int) a2 t140 _ A60.out).mono ?_); rintro e w' ⟨rfl, ⟨nd, rfl⟩⟩; refine ⟨_, rfl, ?_⟩; (try (rw [drewN_self wr]; generalize hq_ : World.drewN wr _ = wr; have n0_ : Aside0 (Kd.R k26 26 wr w.heap.size (fun k_ => (w.heap.size ≤ k_)) (.slice Ao58 x7_2.length co58) x7_2) := ⟨by rw [← hq_]; exact (by (with_reducible repeat (first | apply Kd.R_alloc | apply Kd.R_drewN | apply Kd.R_drew)); exact HO_7.out)⟩; have n1_ : Aside0 (Below w.heap.size w wr) := ⟨by rw [← hq_]; exact (by repeat (first | (with_reducible first | exact HB.out | apply below_alloc | apply pw_below_drewN | apply below_drew1) | exact HB.out))⟩; clear HO_7 HB hq_; have HO_7 := n0_; have HB := n1_; clear n0_ n1_))) | ((with_reducible refine gate_callee (f := 20) rfl ?_); refine goesL_ (some 105) rfl rfl Try.func20 (by kernel_rfl) rfl #[.int .i64 a2, .int .i64 (x7_1.length : Int)] rfl (by (try simp only [List.map_toArray, List.map_cons, List.map_nil]); first | done | rfl | (simp only [List.length_drop, List.length_take]; rfl) | (simp only [← hl7_2]; rfl)) ?_; (with_reducible refine (cadencyref04_rest.calls a2 (x7_1.length : Int) t141 _ A61.out).mono ?_); rintro e w' ⟨rfl, ⟨nd, rfl⟩⟩; refine ⟨_, rfl, ?_⟩; (try (rw [drewN_self wr]; generalize hq_ : World.drewN wr _ = wr; have n0_ : Aside0 (Kd.R k26 26 wr w.heap.size (fun k_ => (w.heap.size ≤ k_)) (.slice Ao58 x7_2.length co58) x7_2) := ⟨by rw [← hq_]; exact (by (with_reducible repeat (first | apply Kd.R_alloc | apply Kd.R_drewN | apply Kd.R_drew)); exact HO_7.out)⟩; have n1_ : Aside0 (Below w.heap.size w wr) := ⟨by rw [← hq_]; exact (by repeat (first | (with_reducible first | exact HB.out | apply below_alloc | apply pw_below_drewN | apply below_drew1) | exact HB.out))⟩; clear HO_7 HB hq_; have HO_7 := n0_; have HB := n1_; clear n0_ n1_)); have p65 : 0 ≤ (x15_2 : Int) := of_decide_eq_true (by first | (with_reducible assumption) | assumption); have q65 : (x15_2 : Int) < ((x7_2.length : Int) : Int) := of_decide_eq_true (by first | (with_reducible assumption) | assumption); obtain ⟨go65, co65, eo65, gb65, gl65, cl65, HG65⟩ := Kd.R_form HO_7.out (by omega); (first | cases eo65 | (injection eo65 with ea_ en_ ec_; (first | subst ea_ | (injection ea_ with ea_; subst ea_)); subst ec_; clear en_)); have GB65 := Aside0.mk gb65; have GG65 := Aside0.mk HG65; clear gb65 gl65 HG65; obtain ⟨ce65, hcl65, hM65, hcc65, hfr65⟩ := Kd.R_elem HO_7.out z26 (x15_2 : Int) p65 q65; obtain rfl := k26_openM hM65; have hx65_0 : wr.cell? ⟨go65, (x15_2 : Int).toNat * 7, none⟩ = some (.string ((rd_T26 x7_2 x15_2).f0)) := hcc65 0 _ rfl; have hx65_1 : wr.cell? ⟨go65, (x15_2 : Int).toNat * 7 + 1, none⟩ = some (.int .i64 ((rd_T26 x7_2 x15_2).f1)) := hcc65 1 _ rfl; have hx65_2 : wr.cell? ⟨go65, (x15_2 : Int).toNat * 7 + 2, none⟩ = some (.int .i64 ((rd_T26 x7_2 x15_2).f2)) := hcc65 2 _ rfl; have hx65_3 : wr.cell? ⟨go65, (x15_2 : Int).toNat * 7 + 3, none⟩ = some (.int .i64 ((rd_T26 x7_2 x15_2).f3)) := hcc65 3 _ rfl; have hx65_4 : wr.cell? ⟨go65, (x15_2 : Int).toNat * 7 + 4, none⟩ = some (.int .i64 ((rd_T26 x7_2 x15_2).f4)) := hcc65 4 _ rfl; have hx65_5 : wr.cell? ⟨go65, (x15_2 : Int).toNat * 7 + 5, none⟩ = some (.int .i64 ((rd_T26 x7_2 x15_2).f5)) := hcc65 5 _ rfl; have hx65_6 : wr.cell? ⟨go65, (x15_2 : Int).toNat * 7 + 6, none⟩ = some (.int .i64 ((rd_T26 x7_2 x15_2).f6)) := hcc65 6 _ rfl; have hf65_0 : wr.frozen? ⟨go65, (x15_2 : Int).toNat * 7, none⟩ = false := hfr65 0; have hf65_1 : wr.frozen? ⟨go65, (x15_2 : Int).toNat * 7 + 1, none⟩ = false := hfr65 1; have hf65_2 : wr.frozen? ⟨go65, (x15_2 : Int).toNat * 7 + 2, none⟩ = false := hfr65 2; have hf65_3 : wr.frozen? ⟨go65, (x15_2 : Int).toNat * 7 + 3, none⟩ = false := hfr65 3; have hf65_4 : wr.frozen? ⟨go65, (x15_2 : Int).toNat * 7 + 4, none⟩ = false := hfr65 4; have hf65_5 : wr.frozen? ⟨go65, (x15_2 : Int).toNat * 7 + 5, none⟩ = false := hfr65 5; have hf65_6 : wr.frozen? ⟨go65, (x15_2 : Int).toNat * 7 + 6, none⟩ = false := hfr65 6; clear hcl65 hcc65 hfr65 hM65; replace p65 := eq_true p65; replace q65 := eq_true q65; have HX66 := Aside0.mk (show Kd.R k26 26 wr w.heap.size (fun k_ => (w.heap.size ≤ k_)) (.slice (some ⟨go65, 0, none⟩) x7_2.length co58) x7_2 from (by (with_reducible repeat (first | apply Kd.R_alloc | apply Kd.R_drewN | apply Kd.R_drew)); exact HO_7.out)); obtain ⟨ce66, hcl66, hM66, hcc66, hfr66⟩ := Kd.R_elem HX66.out z26 (x15_2 : Int) (of_decide_eq_true (by first | (with_reducible assumption) | assumption)) (by have h_ : (x15_2 : Int) < ((x7_2.length : Int) : Int) := of_decide_eq_true (by first | (with_reducible assumption) | assumption); first | exact h_ | (have e_ := (Kd.R_reads' HO_7.out).1; omega) | simpa using h_); obtain rfl := k26_openM hM66; have HP66 := Kd.R_seg HX66.out (x15_2 : Int) (of_decide_eq_true (by first | (with_reducible assumption) | assumption)) (by have h_ : (x15_2 : Int) < ((x7_2.length : Int) : Int) := of_decide_eq_true (by first | (with_reducible assumption) | assumption); first | exact h_ | (have e_ := (Kd.R_reads' HO_7.out).1; omega) | simpa using h_) (seg := [.int .i64 (wrap64 (1 + (Int.tmod (wrap64 ((wrap64 (x15_2 * t140)) + t141)) (x7_1.length : Int))))]) (j := 6) hcl66 hcc66 (show 7 ≤ 7 from by decide) (x' := (⟨(rd_T26 x7_2 x15_2).f0, (rd_T26 x7_2 x15_2).f1, (rd_T26 x7_2 x15_2).f2, (rd_T26 x7_2 x15_2).f3, (rd_T26 x7_2 x15_2).f4, (rd_T26 x7_2 x15_2).f5, wrap64 (1 + (Int.tmod (wrap64 ((wrap64 (x15_2 * t140)) + t141)) (x7_1.length : Int)))⟩ : S26)) (k26_mkM _ _ _ (⟨(rd_T26 x7_2 x15_2).f0, (rd_T26 x7_2 x15_2).f1, (rd_T26 x7_2 x15_2).f2, (rd_T26 x7_2 x15_2).f3, (rd_T26 x7_2 x15_2).f4, (rd_T26 x7_2 x15_2).f5, wrap64 (1 + (Int.tmod (wrap64 ((wrap64 (x15_2 * t140)) + t141)) (x7_1.length : Int)))⟩ : S26) ) (fun _ hk => hk); have hx66_6 := hcc66 6 _ rfl; (try simp only [show (k26).sz = 7 from rfl, Nat.mul_one, Nat.add_zero] at hx66_6); have hf66_6 := hfr66 6; (try simp only [show (k26).sz = 7 from rfl, Nat.mul_one, Nat.add_zero] at hf66_6); clear hcl66 hcc66 hfr66 hM66) | ((with_reducible refine gate_store (t := 3) (p := 111) rfl ?_); refine store_event (t := 3) (p := 111) (v := ?vo_w67) (w1 := (wr.setCell ⟨go65, (x15_2 : Int).toNat * 7 + 6, none⟩ (.int .i64 (wrap64 (1 + (Int.tmod (wrap64 ((wrap64 (x15_2 * t140)) + t141)) (x7_1.length : Int))))))) ?hg ?ho ?hn ?hr ?_; (case ho => rfl); (case hg => rfl); (case hn => rfl); (case hr => first | (go_simp; done) | (go_simp; rfl)); intro w67 hw; have hg : wr.grownBy w67 (some go65) := (by rw [hw]; exact HP66.2); have hp_ : Kd.R k26 26 w67 w.heap.size (fun k_ => (w.heap.size ≤ k_)) (.slice (some ⟨go65, 0, none⟩) x7_2.length co58) y142 := (by rw [hw, Ny142.out]; exact HP66.1); clear HP66; have n0_ := Aside0.mk (hp_); have n1_ := Aside0.mk ((by rw [hw]; exact below_set (HB.out) GB65.out : Below w.heap.size w w67)); clear HO_7; clear HB; have HO_7 := n0_; have HB := n1_; clear n0_ n1_; clear hg hw hp_))
                        (try simp only [← hl7_2])
                        go_roundg k2
                        case measure => have := HK1.out; have := HK2.out; omega
                        case rel => exact ⟨(y142), (wrap64 (x15_2 + 1)), (by first | rfl | (simp; done) | (simp [*]; done)), H', ⟨by have := HK1.out; have := HK2.out; omega⟩, ⟨by (try simp only [hl7_2]); (with_reducible repeat (first | apply Kd.R_alloc | apply Kd.R_drewN | apply Kd.R_drew)); exact HO_7.out⟩, ⟨by repeat (first | (with_reducible first | exact HB.out | apply below_alloc | apply pw_below_drewN | apply below_drew1) | exact HB.out)⟩⟩
                      · rw [if_neg c64] at H
                        exact absurd H (by simp)
                    · rw [if_neg c63] at H
                      exact absurd H (by simp)
                · rw [if_neg c59] at H
                  have c59b0 : decide (x15_2 < (x7_1.length : Int)) = false := decide_eq_false c59
                  (try (have c59b0_h := c59b0; simp only [hl7_2] at c59b0_h))
                  clear c59
                  obtain rfl := Option.some.inj H
                  go_wp2
                  go_ret
                  exact ⟨_, by first | rfl | (simp [errW_none, errW_some] <;> rfl) | (simp [*, errW_none, errW_some] <;> rfl), by (with_reducible repeat (first | apply Kd.R_alloc | apply Kd.R_drewN | apply Kd.R_drew)); exact HO_7.out, by repeat (first | (with_reducible first | exact HB.out | apply below_alloc | apply pw_below_drewN | apply below_drew1) | exact HB.out)⟩
        · rw [if_neg c44] at H
          have c44b0 : decide (x8_1 < (l0.length : Int)) = false := decide_eq_false c44
          clear c44
          have H' := Aside0.mk H
          clear H
          obtain ⟨Ao68, co68, eo68⟩ := Kd.R_slice HO_7.out
          subst eo68
          go_wp2
          go_loopg [15] k1 (fun kq v15 w' => ∃ (x7_2 : List (S26)) (x15_2 : Int), v15 = .int .i64 x15_2 ∧ Aside0 (cadencyref04_Set.l1 kq a2 x7_2 (x7_1.length : Int) x15_2 = some r) ∧ Aside0 (kq ≤ k1) ∧ Aside0 (Kd.R k26 26 w' w.heap.size (fun k_ => (w.heap.size ≤ k_)) (.slice Ao68 x7_1.length co68) x7_2) ∧ Aside0 (Below w.heap.size w w'))
          case atStart => exact ⟨(x7_1), (0), (by first | rfl | (simp; done) | (simp [*]; done)), H', ⟨Nat.le_refl _⟩, ⟨by (with_reducible repeat (first | apply Kd.R_alloc | apply Kd.R_drewN | apply Kd.R_drew)); exact HO_7.out⟩, ⟨by repeat (first | (with_reducible first | exact HB.out | apply below_alloc | apply pw_below_drewN | apply below_drew1) | exact HB.out)⟩⟩
          case round =>
            clear H'
            try clear c1
            try clear p1
            try clear q1
            try clear hx1
            try clear c2
            try clear p2
            try clear hcv2
            try clear c3
            try clear p3
            try clear q3
            try clear hx3
            try clear hf3
            try clear c4
            try clear c4b0
            try clear c4b1
            try clear c4b2
            try clear p4
            try clear q4
            try clear hx4
            try clear hf4
            try clear c5
            try clear hcv5
            try clear c6
            try clear p6
            try clear q6
            try clear hx6
            try clear hf6
            try clear c7
            try clear c7b0
            try clear c8
            try clear c8b0
            try clear c9
            try clear c9b0
            try clear c10
            try clear p12
            try clear q12
            try clear hx12
            try clear p13
            try clear q13
            try clear hx13
            try clear c15
            try clear c15b0
            try clear c15b1
            try clear c15b2
            try clear c16
            try clear c20
            try clear hcv20
            try clear c21
            try clear c24
            try clear c24b0
            try clear c27
            try clear c27b0
            try clear c27b1
            try clear c27b2
            try clear c28
            try clear c28b0
            try clear c29
            try clear c29b0
            try clear c30
            try clear p30
            try clear q30
            try clear hx30
            try clear hf30
            try clear c31
            try clear hx31
            try clear hf31
            try clear c35
            try clear c35b0
            try clear c38
            try clear c38b0
            try clear c38b1
            try clear c38b2
            try clear c39
            try clear c39b0
            try clear c40
            try clear c40b0
            try clear c41
            try clear p41
            try clear q41
            try clear hx41
            try clear hf41
            try clear c42
            try clear hx42
            try clear hf42
            try clear c44
            try clear c44b0
            try clear c45
            try clear c45b0
            try clear c46
            try clear c46b0
            try clear c52
            try clear c52b0
            try clear c52b1
            try clear c52b2
            try clear c53
            try clear hcv56
            try clear c59
            try clear c59b0
            try clear c62
            try clear c62b0
            try clear c62b1
            try clear c62b2
            try clear c63
            try clear c63b0
            try clear c64
            try clear c64b0
            try clear p64
            try clear c65
            try clear p65
            try clear q65
            try clear hx65
            try clear hf65
            try clear c66
            try clear hx66
            try clear hf66
            try clear hx124_0
            try clear hx124_1
            try clear hx124_2
            try clear hx124_3
            try clear hx124_4
            try clear hx126_0
            try clear hx126_1
            try clear hx126_2
            try clear hx126_3
            try clear hx126_4
            try clear hx128_0
            try clear hx128_1
            try clear hx128_2
            try clear hx128_3
            try clear hx128_4
            try clear hx130_0
            try clear hx130_1
            try clear hx130_2
            try clear hx130_3
            try clear hx130_4
            try clear hx132_0
            try clear hx132_1
            try clear hx132_2
            try clear hx132_3
            try clear hx132_4
            try clear hx30_0
            try clear hx30_1
            try clear hx30_2
            try clear hx30_3
            try clear hx30_4
            try clear hx30_5
            try clear hx30_6
            try clear hx31_6
            try clear hx41_0
            try clear hx41_1
            try clear hx41_2
            try clear hx41_3
            try clear hx41_4
            try clear hx41_5
            try clear hx41_6
            try clear hx42_6
            try clear hx65_0
            try clear hx65_1
            try clear hx65_2
            try clear hx65_3
            try clear hx65_4
            try clear hx65_5
            try clear hx65_6
            try clear hx66_6
            try clear p1
            try clear p12
            try clear p124
            try clear p126
            try clear p128
            try clear p13
            try clear p130
            try clear p132
            try clear p2
            try clear p3
            try clear p30
            try clear p4
            try clear p41
            try clear p6
            try clear p65
            try clear q1
            try clear q12
            try clear q124
            try clear q126
            try clear q128
            try clear q13
            try clear q130
            try clear q132
            try clear q3
            try clear q30
            try clear q4
            try clear q41
            try clear q65
            obtain ⟨x7_2, x15_2, rfl, HA, HK2, HO_7, HB⟩ := hrel
            have hl7_2 := (Kd.R_reads' HO_7.out).1
            rw [hl7_2] at HO_7
            (try simp only [hl7_2])
            cases gk with
            | zero => exact absurd HA.out (by simp [cadencyref04_Set.l1])
            | succ k2 =>
              have H := HA.out
              clear HA
              simp only [cadencyref04_Set.l1] at H
              by_cases c69 : x15_2 < (x7_1.length : Int)
              · rw [if_pos c69] at H
                have c69b0 : decide (x15_2 < (x7_1.length : Int)) = true := decide_eq_true c69
                clear c69
                replace H := Option.bind_eq_some_iff.mp H
                obtain ⟨t140, A700, H⟩ := H
                replace H : ((cadencyref04_rest.f a2 (x7_1.length : Int)).bind fun t141 => (if (x7_1.length : Int) = 0 then (none) else (if 0 ≤ x15_2 then (if x15_2 < (x7_2.length : Int) then (cadencyref04_Set.l1 k2 a2 (x7_2.set (x15_2 : Int).toNat (⟨(rd_T26 x7_2 x15_2).f0, (rd_T26 x7_2 x15_2).f1, (rd_T26 x7_2 x15_2).f2, (rd_T26 x7_2 x15_2).f3, (rd_T26 x7_2 x15_2).f4, (rd_T26 x7_2 x15_2).f5, wrap64 (1 + (Int.tmod (wrap64 ((wrap64 (x15_2 * t140)) + t141)) (x7_1.length : Int)))⟩ : S26)) (x7_1.length : Int) (wrap64 (x15_2 + 1))) else (none)) else (none)))) = some r := H
                have A70 := Aside0.mk A700
                clear A700
                replace H := Option.bind_eq_some_iff.mp H
                obtain ⟨t141, A710, H⟩ := H
                replace H : (if (x7_1.length : Int) = 0 then (none) else (if 0 ≤ x15_2 then (if x15_2 < (x7_2.length : Int) then (cadencyref04_Set.l1 k2 a2 (x7_2.set (x15_2 : Int).toNat (⟨(rd_T26 x7_2 x15_2).f0, (rd_T26 x7_2 x15_2).f1, (rd_T26 x7_2 x15_2).f2, (rd_T26 x7_2 x15_2).f3, (rd_T26 x7_2 x15_2).f4, (rd_T26 x7_2 x15_2).f5, wrap64 (1 + (Int.tmod (wrap64 ((wrap64 (x15_2 * t140)) + t141)) (x7_1.length : Int)))⟩ : S26)) (x7_1.length : Int) (wrap64 (x15_2 + 1))) else (none)) else (none))) = some r := H
                have A71 := Aside0.mk A710
                clear A710
                by_cases c72 : (x7_1.length : Int) = 0
                · rw [if_pos c72] at H
                  exact absurd H (by simp)
                · rw [if_neg c72] at H
                  have c72b0 : ((x7_1.length : Int) == 0) = false := beq_eq_false_iff_ne.mpr c72
                  have c72b1 : ((x7_1.length : Int) != 0) = true := bne_iff_ne.mpr c72
                  have c72b2 : ¬ (x7_1 = []) := fun h_ => c72 (by rw [h_]; rfl)
                  by_cases c73 : 0 ≤ x15_2
                  · rw [if_pos c73] at H
                    have c73b0 : decide (0 ≤ x15_2) = true := decide_eq_true c73
                    clear c73
                    by_cases c74 : x15_2 < (x7_2.length : Int)
                    · rw [if_pos c74] at H
                      have c74b0 : decide (x15_2 < (x7_2.length : Int)) = true := decide_eq_true c74
                      clear c74
                      obtain ⟨y142, hy142⟩ : ∃ y_ : List (S26), y_ = (x7_2.set (x15_2 : Int).toNat (⟨(rd_T26 x7_2 x15_2).f0, (rd_T26 x7_2 x15_2).f1, (rd_T26 x7_2 x15_2).f2, (rd_T26 x7_2 x15_2).f3, (rd_T26 x7_2 x15_2).f4, (rd_T26 x7_2 x15_2).f5, wrap64 (1 + (Int.tmod (wrap64 ((wrap64 (x15_2 * t140)) + t141)) (x7_1.length : Int)))⟩ : S26)) := ⟨_, rfl⟩
                      replace H : (cadencyref04_Set.l1 k2 a2 y142 (x7_1.length : Int) (wrap64 (x15_2 + 1))) = some r := by first | (rw [hy142]; with_reducible exact H) | (have H2_ := (Option.bind_some _ _).symm.trans H; rw [hy142]; with_reducible exact H2_) | (have H2_ := (Option.bind_some _ _).symm.trans H; with_reducible exact H2_) | with_reducible exact H | (rw [hy142]; exact H) | exact H
                      have Ny142 := Aside0.mk hy142
                      clear hy142
                      have H' := Aside0.mk H
                      clear H
                      go_wp2_with (first | ((with_reducible refine gate_callee (f := 21) rfl ?_); refine goesL_ (some 101) rfl rfl Try.func21 (by kernel_rfl) rfl #[.int .i64 (x7_1.length : Int), .int .i64 a2] rfl (by (try simp only [List.map_toArray, List.map_cons, List.map_nil]); first | done | rfl | (simp only [List.length_drop, List.length_take]; rfl) | (simp only [← hl7_2]; rfl)) ?_; (with_reducible refine (cadencyref04_turns.calls (x7_1.length : Int) a2 t140 _ A70.out).mono ?_); rintro e w' ⟨rfl, ⟨nd, rfl⟩⟩; refine ⟨_, rfl, ?_⟩; (try (rw [drewN_self wr]; generalize hq_ : World.drewN wr _ = wr; have n0_ : Aside0 (Kd.R k26 26 wr w.heap.size (fun k_ => (w.heap.size ≤ k_)) (.slice Ao68 x7_2.length co68) x7_2) := ⟨by rw [← hq_]; exact (by (with_reducible repeat (first | apply Kd.R_alloc | apply Kd.R_drewN | apply Kd.R_drew)); exact HO_7.out)⟩; have n1_ : Aside0 (Below w.heap.size w wr) := ⟨by rw [← hq_]; exact (by repeat (first | (with_reducible first | exact HB.out | apply below_alloc | apply pw_below_drewN | apply below_drew1) | exact HB.out))⟩; clear HO_7 HB hq_; have HO_7 := n0_; have HB := n1_; clear n0_ n1_))) | ((with_reducible refine gate_callee (f := 20) rfl ?_); refine goesL_ (some 105) rfl rfl Try.func20 (by kernel_rfl) rfl #[.int .i64 a2, .int .i64 (x7_1.length : Int)] rfl (by (try simp only [List.map_toArray, List.map_cons, List.map_nil]); first | done | rfl | (simp only [List.length_drop, List.length_take]; rfl) | (simp only [← hl7_2]; rfl)) ?_; (with_reducible refine (cadencyref04_rest.calls a2 (x7_1.length : Int) t141 _ A71.out).mono ?_); rintro e w' ⟨rfl, ⟨nd, rfl⟩⟩; refine ⟨_, rfl, ?_⟩; (try (rw [drewN_self wr]; generalize hq_ : World.drewN wr _ = wr; have n0_ : Aside0 (Kd.R k26 26 wr w.heap.size (fun k_ => (w.heap.size ≤ k_)) (.slice Ao68 x7_2.length co68) x7_2) := ⟨by rw [← hq_]; exact (by (with_reducible repeat (first | apply Kd.R_alloc | apply Kd.R_drewN | apply Kd.R_drew)); exact HO_7.out)⟩; have n1_ : Aside0 (Below w.heap.size w wr) := ⟨by rw [← hq_]; exact (by repeat (first | (with_reducible first | exact HB.out | apply below_alloc | apply pw_below_drewN | apply below_drew1) | exact HB.out))⟩; clear HO_7 HB hq_; have HO_7 := n0_; have HB := n1_; clear n0_ n1_)); have p75 : 0 ≤ (x15_2 : Int) := of_decide_eq_true (by first | (with_reducible assumption) | assumption); have q75 : (x15_2 : Int) < ((x7_2.length : Int) : Int) := of_decide_eq_true (by first | (with_reducible assumption) | assumption); obtain ⟨go75, co75, eo75, gb75, gl75, cl75, HG75⟩ := Kd.R_form HO_7.out (by omega); (first | cases eo75 | (injection eo75 with ea_ en_ ec_; (first | subst ea_ | (injection ea_ with ea_; subst ea_)); subst ec_; clear en_)); have GB75 := Aside0.mk gb75; have GG75 := Aside0.mk HG75; clear gb75 gl75 HG75; obtain ⟨ce75, hcl75, hM75, hcc75, hfr75⟩ := Kd.R_elem HO_7.out z26 (x15_2 : Int) p75 q75; obtain rfl := k26_openM hM75; have hx75_0 : wr.cell? ⟨go75, (x15_2 : Int).toNat * 7, none⟩ = some (.string ((rd_T26 x7_2 x15_2).f0)) := hcc75 0 _ rfl; have hx75_1 : wr.cell? ⟨go75, (x15_2 : Int).toNat * 7 + 1, none⟩ = some (.int .i64 ((rd_T26 x7_2 x15_2).f1)) := hcc75 1 _ rfl; have hx75_2 : wr.cell? ⟨go75, (x15_2 : Int).toNat * 7 + 2, none⟩ = some (.int .i64 ((rd_T26 x7_2 x15_2).f2)) := hcc75 2 _ rfl; have hx75_3 : wr.cell? ⟨go75, (x15_2 : Int).toNat * 7 + 3, none⟩ = some (.int .i64 ((rd_T26 x7_2 x15_2).f3)) := hcc75 3 _ rfl; have hx75_4 : wr.cell? ⟨go75, (x15_2 : Int).toNat * 7 + 4, none⟩ = some (.int .i64 ((rd_T26 x7_2 x15_2).f4)) := hcc75 4 _ rfl; have hx75_5 : wr.cell? ⟨go75, (x15_2 : Int).toNat * 7 + 5, none⟩ = some (.int .i64 ((rd_T26 x7_2 x15_2).f5)) := hcc75 5 _ rfl; have hx75_6 : wr.cell? ⟨go75, (x15_2 : Int).toNat * 7 + 6, none⟩ = some (.int .i64 ((rd_T26 x7_2 x15_2).f6)) := hcc75 6 _ rfl; have hf75_0 : wr.frozen? ⟨go75, (x15_2 : Int).toNat * 7, none⟩ = false := hfr75 0; have hf75_1 : wr.frozen? ⟨go75, (x15_2 : Int).toNat * 7 + 1, none⟩ = false := hfr75 1; have hf75_2 : wr.frozen? ⟨go75, (x15_2 : Int).toNat * 7 + 2, none⟩ = false := hfr75 2; have hf75_3 : wr.frozen? ⟨go75, (x15_2 : Int).toNat * 7 + 3, none⟩ = false := hfr75 3; have hf75_4 : wr.frozen? ⟨go75, (x15_2 : Int).toNat * 7 + 4, none⟩ = false := hfr75 4; have hf75_5 : wr.frozen? ⟨go75, (x15_2 : Int).toNat * 7 + 5, none⟩ = false := hfr75 5; have hf75_6 : wr.frozen? ⟨go75, (x15_2 : Int).toNat * 7 + 6, none⟩ = false := hfr75 6; clear hcl75 hcc75 hfr75 hM75; replace p75 := eq_true p75; replace q75 := eq_true q75; have HX76 := Aside0.mk (show Kd.R k26 26 wr w.heap.size (fun k_ => (w.heap.size ≤ k_)) (.slice (some ⟨go75, 0, none⟩) x7_2.length co68) x7_2 from (by (with_reducible repeat (first | apply Kd.R_alloc | apply Kd.R_drewN | apply Kd.R_drew)); exact HO_7.out)); obtain ⟨ce76, hcl76, hM76, hcc76, hfr76⟩ := Kd.R_elem HX76.out z26 (x15_2 : Int) (of_decide_eq_true (by first | (with_reducible assumption) | assumption)) (by have h_ : (x15_2 : Int) < ((x7_2.length : Int) : Int) := of_decide_eq_true (by first | (with_reducible assumption) | assumption); first | exact h_ | (have e_ := (Kd.R_reads' HO_7.out).1; omega) | simpa using h_); obtain rfl := k26_openM hM76; have HP76 := Kd.R_seg HX76.out (x15_2 : Int) (of_decide_eq_true (by first | (with_reducible assumption) | assumption)) (by have h_ : (x15_2 : Int) < ((x7_2.length : Int) : Int) := of_decide_eq_true (by first | (with_reducible assumption) | assumption); first | exact h_ | (have e_ := (Kd.R_reads' HO_7.out).1; omega) | simpa using h_) (seg := [.int .i64 (wrap64 (1 + (Int.tmod (wrap64 ((wrap64 (x15_2 * t140)) + t141)) (x7_1.length : Int))))]) (j := 6) hcl76 hcc76 (show 7 ≤ 7 from by decide) (x' := (⟨(rd_T26 x7_2 x15_2).f0, (rd_T26 x7_2 x15_2).f1, (rd_T26 x7_2 x15_2).f2, (rd_T26 x7_2 x15_2).f3, (rd_T26 x7_2 x15_2).f4, (rd_T26 x7_2 x15_2).f5, wrap64 (1 + (Int.tmod (wrap64 ((wrap64 (x15_2 * t140)) + t141)) (x7_1.length : Int)))⟩ : S26)) (k26_mkM _ _ _ (⟨(rd_T26 x7_2 x15_2).f0, (rd_T26 x7_2 x15_2).f1, (rd_T26 x7_2 x15_2).f2, (rd_T26 x7_2 x15_2).f3, (rd_T26 x7_2 x15_2).f4, (rd_T26 x7_2 x15_2).f5, wrap64 (1 + (Int.tmod (wrap64 ((wrap64 (x15_2 * t140)) + t141)) (x7_1.length : Int)))⟩ : S26) ) (fun _ hk => hk); have hx76_6 := hcc76 6 _ rfl; (try simp only [show (k26).sz = 7 from rfl, Nat.mul_one, Nat.add_zero] at hx76_6); have hf76_6 := hfr76 6; (try simp only [show (k26).sz = 7 from rfl, Nat.mul_one, Nat.add_zero] at hf76_6); clear hcl76 hcc76 hfr76 hM76) | ((with_reducible refine gate_store (t := 3) (p := 111) rfl ?_); refine store_event (t := 3) (p := 111) (v := ?vo_w77) (w1 := (wr.setCell ⟨go75, (x15_2 : Int).toNat * 7 + 6, none⟩ (.int .i64 (wrap64 (1 + (Int.tmod (wrap64 ((wrap64 (x15_2 * t140)) + t141)) (x7_1.length : Int))))))) ?hg ?ho ?hn ?hr ?_; (case ho => rfl); (case hg => rfl); (case hn => rfl); (case hr => first | (go_simp; done) | (go_simp; rfl)); intro w77 hw; have hg : wr.grownBy w77 (some go75) := (by rw [hw]; exact HP76.2); have hp_ : Kd.R k26 26 w77 w.heap.size (fun k_ => (w.heap.size ≤ k_)) (.slice (some ⟨go75, 0, none⟩) x7_2.length co68) y142 := (by rw [hw, Ny142.out]; exact HP76.1); clear HP76; have n0_ := Aside0.mk (hp_); have n1_ := Aside0.mk ((by rw [hw]; exact below_set (HB.out) GB75.out : Below w.heap.size w w77)); clear HO_7; clear HB; have HO_7 := n0_; have HB := n1_; clear n0_ n1_; clear hg hw hp_))
                      (try simp only [← hl7_2])
                      go_roundg k2
                      case measure => have := HK1.out; have := HK2.out; omega
                      case rel => exact ⟨(y142), (wrap64 (x15_2 + 1)), (by first | rfl | (simp; done) | (simp [*]; done)), H', ⟨by have := HK1.out; have := HK2.out; omega⟩, ⟨by (try simp only [hl7_2]); (with_reducible repeat (first | apply Kd.R_alloc | apply Kd.R_drewN | apply Kd.R_drew)); exact HO_7.out⟩, ⟨by repeat (first | (with_reducible first | exact HB.out | apply below_alloc | apply pw_below_drewN | apply below_drew1) | exact HB.out)⟩⟩
                    · rw [if_neg c74] at H
                      exact absurd H (by simp)
                  · rw [if_neg c73] at H
                    exact absurd H (by simp)
              · rw [if_neg c69] at H
                have c69b0 : decide (x15_2 < (x7_1.length : Int)) = false := decide_eq_false c69
                (try (have c69b0_h := c69b0; simp only [hl7_2] at c69b0_h))
                clear c69
                obtain rfl := Option.some.inj H
                go_wp2
                go_ret
                exact ⟨_, by first | rfl | (simp [errW_none, errW_some] <;> rfl) | (simp [*, errW_none, errW_some] <;> rfl), by (with_reducible repeat (first | apply Kd.R_alloc | apply Kd.R_drewN | apply Kd.R_drew)); exact HO_7.out, by repeat (first | (with_reducible first | exact HB.out | apply below_alloc | apply pw_below_drewN | apply below_drew1) | exact HB.out)⟩

end Go.Proofs.Ytcheokfoilcdoaa.PAll
