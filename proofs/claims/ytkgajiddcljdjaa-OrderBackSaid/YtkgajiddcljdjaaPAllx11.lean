-- Laid by wip/printx.py, over the print of the kit.
import Derived.Test.YtkgajiddcljdjaaPAllx0
namespace Go.Proofs.Ytkgajiddcljdjaa.PAll
open Go.RowKit Go.Proofs.YtkgajiddcljdjaaW.PrintWords Go.Proofs.YtkgajiddcljdjaaW.PrintLast Go.Proofs.YtkgajiddcljdjaaW.PrintMore
attribute [local go_sem] max2_int min2_int max_two min_two max_three min_three max_four min_four   -- for this text's walks alone
set_option linter.unusedVariables false
set_option linter.unusedSimpArgs false

/-! ### cadencyref18_Valid: function 28 -/
mutual
def cadencyref18_Valid.l0 : Nat → List Int → Int → Option (Bool)
  | 0, _, _ => none
  | k + 1, x0, x3 => if x3 < (x0.length : Int) then (if 0 ≤ x3 then (if (rd x0 x3) < 0 then (some false) else (if (rd x0 x3) ≥ (x0.length : Int) then (some false) else (cadencyref18_Valid.l1 k x0 x3 0))) else (none)) else (some true)
def cadencyref18_Valid.l1 : Nat → List Int → Int → Int → Option (Bool)
  | 0, _, _, _ => none
  | k + 1, x0, x3, x4 => if x4 < x3 then (if 0 ≤ x4 then (if x4 < (x0.length : Int) then (if 0 ≤ x3 then (if x3 < (x0.length : Int) then (if (rd x0 x4) = (rd x0 x3) then (some false) else (cadencyref18_Valid.l1 k x0 x3 (wrap64 (x4 + 1)))) else (none)) else (none)) else (none)) else (none)) else (cadencyref18_Valid.l0 k x0 (wrap64 (x3 + 1)))
end
def cadencyref18_Valid.f (k : Nat) (l0 : List Int) : Option (Bool) := cadencyref18_Valid.l0 k l0 0
theorem cadencyref18_Valid.mono_l : ∀ k, (∀ y0 y1, LeO (cadencyref18_Valid.l0 k y0 y1) (cadencyref18_Valid.l0 (k + 1) y0 y1)) ∧ (∀ y0 y1 y2, LeO (cadencyref18_Valid.l1 k y0 y1 y2) (cadencyref18_Valid.l1 (k + 1) y0 y1 y2))
  | 0 => ⟨fun _ _ r h => by simp [cadencyref18_Valid.l0] at h, fun _ _ _ r h => by simp [cadencyref18_Valid.l1] at h⟩
  | k + 1 => by
    obtain ⟨ih0, ih1⟩ := cadencyref18_Valid.mono_l k
    refine ⟨?_, ?_⟩
    · intro y0 y1
      unfold cadencyref18_Valid.l0
      repeat' first
      | (with_reducible exact ih0 _ _)
      | (with_reducible exact ih1 _ _ _)
      | (with_reducible exact LeO.refl _)
      | (with_reducible exact LeO.none _)
      | (with_reducible refine LeO.ite ?_ ?_)
      | (with_reducible refine LeO.bind ?_ (fun _ => ?_))
      | exact ih0 _ _
      | exact ih1 _ _ _
      | exact LeO.none _
      | refine LeO.ite ?_ ?_
      | refine LeO.bind ?_ (fun _ => ?_)
    · intro y0 y1 y2
      unfold cadencyref18_Valid.l1
      repeat' first
      | (with_reducible exact ih0 _ _)
      | (with_reducible exact ih1 _ _ _)
      | (with_reducible exact LeO.refl _)
      | (with_reducible exact LeO.none _)
      | (with_reducible refine LeO.ite ?_ ?_)
      | (with_reducible refine LeO.bind ?_ (fun _ => ?_))
      | exact ih0 _ _
      | exact ih1 _ _ _
      | exact LeO.none _
      | refine LeO.ite ?_ ?_
      | refine LeO.bind ?_ (fun _ => ?_)
theorem cadencyref18_Valid.mono : ∀ a0 k, LeO (cadencyref18_Valid.f k a0) (cadencyref18_Valid.f (k + 1) a0) := by
  intro a0 k
  obtain ⟨ih0, ih1⟩ := cadencyref18_Valid.mono_l k
  unfold cadencyref18_Valid.f
  repeat' first
      | (with_reducible exact ih0 _ _)
      | (with_reducible exact ih1 _ _ _)
      | (with_reducible exact LeO.refl _)
      | (with_reducible exact LeO.none _)
      | (with_reducible refine LeO.ite ?_ ?_)
      | (with_reducible refine LeO.bind ?_ (fun _ => ?_))
      | exact ih0 _ _
      | exact ih1 _ _ _
      | exact LeO.none _
      | refine LeO.ite ?_ ?_
      | refine LeO.bind ?_ (fun _ => ?_)
set_option maxHeartbeats 8000000 in
set_option maxRecDepth 100000 in
theorem cadencyref18_Valid.calls (k : Nat) (A0 : Option Addr) (c0 : Nat) (l0 : List Int) (r : Bool) (w : World) (hr0 : Kd.C (Kd.int .i64) w A0 l0.length l0) (hc0 : l0.length ≤ c0) (h : cadencyref18_Valid.f k l0 = some r) :
    Calls Try.prog 28 #[.slice A0 l0.length c0] w fun e w' => e = .returned (.bool r) ∧ Drawn0 w w' := by
  have HR0 := Aside0.mk hr0
  have HC0 := Aside0.mk hc0
  clear hr0 hc0
  have H : (cadencyref18_Valid.l0 k l0 0) = some r := h
  clear h
  have H' := Aside0.mk H
  clear H
  go_enter Try.func28, Try.ntmps28
  go_wp2
  repeat (go_quiet (fail); try go_wp2)
  go_loopg [3] k (fun kq v3 w' => ∃ (x3_1 : Int), v3 = .int .i64 x3_1 ∧ Aside0 (cadencyref18_Valid.l0 kq l0 x3_1 = some r) ∧ Aside0 (kq ≤ k) ∧ Drawn0 w w')
  case atStart => exact ⟨(0), (by first | rfl | (simp; done) | (simp [*]; done)), H', ⟨Nat.le_refl _⟩, by repeat (first | exact Drawn0.refl _ | apply Drawn0.step)⟩
  case round =>
    clear H'
    obtain ⟨x3_1, rfl, HA, HK1, ⟨m1, rfl⟩⟩ := hrel
    cases gk with
    | zero => exact absurd HA.out (by simp [cadencyref18_Valid.l0])
    | succ k1 =>
      have H := HA.out
      clear HA
      simp only [cadencyref18_Valid.l0] at H
      by_cases c2 : x3_1 < (l0.length : Int)
      · rw [if_pos c2] at H
        have c2b0 : decide (x3_1 < (l0.length : Int)) = true := decide_eq_true c2
        clear c2
        by_cases c3 : 0 ≤ x3_1
        · rw [if_pos c3] at H
          have c3b0 : decide (0 ≤ x3_1) = true := decide_eq_true c3
          clear c3
          by_cases c4 : (rd l0 x3_1) < 0
          · rw [if_pos c4] at H
            have c4b0 : decide ((rd l0 x3_1) < 0) = true := decide_eq_true c4
            clear c4
            obtain rfl := Option.some.inj H
            have p206 : 0 ≤ (x3_1 : Int) := of_decide_eq_true (by first | (with_reducible assumption) | assumption)
            have q206 : x3_1 < (l0.length : Int) := of_decide_eq_true (by first | (with_reducible assumption) | assumption)
            obtain ⟨ad206, e206, hx206_0⟩ := Kd.at_int HR0.out x3_1 p206 q206
            cases e206
            replace p206 := eq_true p206
            replace q206 := eq_true q206
            go_wp2
            repeat (go_quiet (fail); try go_wp2)
            go_ret
            exact ⟨by first | rfl | (simp; done) | (simp [*]; done), by repeat (first | exact Drawn0.refl _ | apply Drawn0.step)⟩
          · rw [if_neg c4] at H
            have c4b0 : decide ((rd l0 x3_1) < 0) = false := decide_eq_false c4
            clear c4
            by_cases c5 : (rd l0 x3_1) ≥ (l0.length : Int)
            · rw [if_pos c5] at H
              have c5b0 : decide ((l0.length : Int) ≤ (rd l0 x3_1)) = true := decide_eq_true c5
              clear c5
              obtain rfl := Option.some.inj H
              have p206 : 0 ≤ (x3_1 : Int) := of_decide_eq_true (by first | (with_reducible assumption) | assumption)
              have q206 : x3_1 < (l0.length : Int) := of_decide_eq_true (by first | (with_reducible assumption) | assumption)
              obtain ⟨ad206, e206, hx206_0⟩ := Kd.at_int HR0.out x3_1 p206 q206
              cases e206
              replace p206 := eq_true p206
              replace q206 := eq_true q206
              have p207 : 0 ≤ (x3_1 : Int) := of_decide_eq_true (by first | (with_reducible assumption) | assumption)
              have q207 : x3_1 < (l0.length : Int) := of_decide_eq_true (by first | (with_reducible assumption) | assumption)
              obtain ⟨ad207, e207, hx207_0⟩ := Kd.at_int HR0.out x3_1 p207 q207
              obtain rfl : ad206 = ad207 := (by injection e207)
              replace p207 := eq_true p207
              replace q207 := eq_true q207
              go_wp2
              repeat (go_quiet (fail); try go_wp2)
              go_ret
              exact ⟨by first | rfl | (simp; done) | (simp [*]; done), by repeat (first | exact Drawn0.refl _ | apply Drawn0.step)⟩
            · rw [if_neg c5] at H
              have c5b0 : decide ((l0.length : Int) ≤ (rd l0 x3_1)) = false := decide_eq_false c5
              clear c5
              have H' := Aside0.mk H
              clear H
              have p206 : 0 ≤ (x3_1 : Int) := of_decide_eq_true (by first | (with_reducible assumption) | assumption)
              have q206 : x3_1 < (l0.length : Int) := of_decide_eq_true (by first | (with_reducible assumption) | assumption)
              obtain ⟨ad206, e206, hx206_0⟩ := Kd.at_int HR0.out x3_1 p206 q206
              cases e206
              replace p206 := eq_true p206
              replace q206 := eq_true q206
              have p207 : 0 ≤ (x3_1 : Int) := of_decide_eq_true (by first | (with_reducible assumption) | assumption)
              have q207 : x3_1 < (l0.length : Int) := of_decide_eq_true (by first | (with_reducible assumption) | assumption)
              obtain ⟨ad207, e207, hx207_0⟩ := Kd.at_int HR0.out x3_1 p207 q207
              obtain rfl : ad206 = ad207 := (by injection e207)
              replace p207 := eq_true p207
              replace q207 := eq_true q207
              go_wp2
              repeat (go_quiet (fail); try go_wp2)
              go_loopg [4] k1 (fun kq v4 w' => ∃ (x4_2 : Int), v4 = .int .i64 x4_2 ∧ Aside0 (cadencyref18_Valid.l1 kq l0 x3_1 x4_2 = some r) ∧ Aside0 (kq ≤ k1) ∧ Drawn0 w w')
              case atStart => exact ⟨(0), (by first | rfl | (simp; done) | (simp [*]; done)), H', ⟨Nat.le_refl _⟩, by repeat (first | exact Drawn0.refl _ | apply Drawn0.step)⟩
              case round =>
                clear H'
                try clear c2
                try clear c2b0
                try clear p2
                try clear q2
                try clear hx2
                try clear c3
                try clear c3b0
                try clear c4
                try clear c4b0
                try clear c5
                try clear c5b0
                try clear hx206_0
                try clear hx207_0
                try clear p206
                try clear p207
                try clear q206
                try clear q207
                obtain ⟨x4_2, rfl, HA, HK2, ⟨m2, rfl⟩⟩ := hrel
                cases gk with
                | zero => exact absurd HA.out (by simp [cadencyref18_Valid.l1])
                | succ k2 =>
                  have H := HA.out
                  clear HA
                  simp only [cadencyref18_Valid.l1] at H
                  by_cases c6 : x4_2 < x3_1
                  · rw [if_pos c6] at H
                    have c6b0 : decide (x4_2 < x3_1) = true := decide_eq_true c6
                    clear c6
                    by_cases c7 : 0 ≤ x4_2
                    · rw [if_pos c7] at H
                      have c7b0 : decide (0 ≤ x4_2) = true := decide_eq_true c7
                      clear c7
                      by_cases c8 : x4_2 < (l0.length : Int)
                      · rw [if_pos c8] at H
                        have c8b0 : decide (x4_2 < (l0.length : Int)) = true := decide_eq_true c8
                        clear c8
                        by_cases c9 : 0 ≤ x3_1
                        · rw [if_pos c9] at H
                          have c9b0 : decide (0 ≤ x3_1) = true := decide_eq_true c9
                          clear c9
                          by_cases c10 : x3_1 < (l0.length : Int)
                          · rw [if_pos c10] at H
                            have c10b0 : decide (x3_1 < (l0.length : Int)) = true := decide_eq_true c10
                            clear c10
                            by_cases c11 : (rd l0 x4_2) = (rd l0 x3_1)
                            · rw [if_pos c11] at H
                              have c11b0 : ((rd l0 x4_2) == (rd l0 x3_1)) = true := beq_iff_eq.mpr c11
                              have c11b1 : ((rd l0 x4_2) != (rd l0 x3_1)) = false := bne_eq_false_iff_eq.mpr c11
                              clear c11
                              obtain rfl := Option.some.inj H
                              have p208 : 0 ≤ (x4_2 : Int) := of_decide_eq_true (by first | (with_reducible assumption) | assumption)
                              have q208 : x4_2 < (l0.length : Int) := of_decide_eq_true (by first | (with_reducible assumption) | assumption)
                              obtain ⟨ad208, e208, hx208_0⟩ := Kd.at_int HR0.out x4_2 p208 q208
                              obtain rfl : ad206 = ad208 := (by injection e208)
                              replace p208 := eq_true p208
                              replace q208 := eq_true q208
                              have p209 : 0 ≤ (x3_1 : Int) := of_decide_eq_true (by first | (with_reducible assumption) | assumption)
                              have q209 : x3_1 < (l0.length : Int) := of_decide_eq_true (by first | (with_reducible assumption) | assumption)
                              obtain ⟨ad209, e209, hx209_0⟩ := Kd.at_int HR0.out x3_1 p209 q209
                              obtain rfl : ad206 = ad209 := (by injection e209)
                              replace p209 := eq_true p209
                              replace q209 := eq_true q209
                              go_wp2
                              repeat (go_quiet (fail); try go_wp2)
                              go_ret
                              exact ⟨by first | rfl | (simp; done) | (simp [*]; done), by repeat (first | exact Drawn0.refl _ | apply Drawn0.step)⟩
                            · rw [if_neg c11] at H
                              have c11b0 : ((rd l0 x4_2) == (rd l0 x3_1)) = false := beq_eq_false_iff_ne.mpr c11
                              have c11b1 : ((rd l0 x4_2) != (rd l0 x3_1)) = true := bne_iff_ne.mpr c11
                              have H' := Aside0.mk H
                              clear H
                              have p208 : 0 ≤ (x4_2 : Int) := of_decide_eq_true (by first | (with_reducible assumption) | assumption)
                              have q208 : x4_2 < (l0.length : Int) := of_decide_eq_true (by first | (with_reducible assumption) | assumption)
                              obtain ⟨ad208, e208, hx208_0⟩ := Kd.at_int HR0.out x4_2 p208 q208
                              obtain rfl : ad206 = ad208 := (by injection e208)
                              replace p208 := eq_true p208
                              replace q208 := eq_true q208
                              have p209 : 0 ≤ (x3_1 : Int) := of_decide_eq_true (by first | (with_reducible assumption) | assumption)
                              have q209 : x3_1 < (l0.length : Int) := of_decide_eq_true (by first | (with_reducible assumption) | assumption)
                              obtain ⟨ad209, e209, hx209_0⟩ := Kd.at_int HR0.out x3_1 p209 q209
                              obtain rfl : ad206 = ad209 := (by injection e209)
                              replace p209 := eq_true p209
                              replace q209 := eq_true q209
                              go_wp2
                              repeat (go_quiet (fail); try go_wp2)
                              go_roundg k2
                              case measure => have := HK1.out; have := HK2.out; omega
                              case rel => exact ⟨(wrap64 (x4_2 + 1)), (by first | rfl | (simp; done) | (simp [*]; done)), H', ⟨by have := HK1.out; have := HK2.out; omega⟩, by repeat (first | exact Drawn0.refl _ | apply Drawn0.step)⟩
                          · rw [if_neg c10] at H
                            exact absurd H (by simp)
                        · rw [if_neg c9] at H
                          exact absurd H (by simp)
                      · rw [if_neg c8] at H
                        exact absurd H (by simp)
                    · rw [if_neg c7] at H
                      exact absurd H (by simp)
                  · rw [if_neg c6] at H
                    have c6b0 : decide (x4_2 < x3_1) = false := decide_eq_false c6
                    clear c6
                    have H' := Aside0.mk H
                    clear H
                    go_wp2
                    repeat (go_quiet (fail); try go_wp2)
                    go_roundg k2
                    case measure => have := HK1.out; have := HK2.out; omega
                    case rel => exact ⟨(wrap64 (x3_1 + 1)), (by first | rfl | (simp; done) | (simp [*]; done)), H', ⟨by have := HK1.out; have := HK2.out; omega⟩, by repeat (first | exact Drawn0.refl _ | apply Drawn0.step)⟩
        · rw [if_neg c3] at H
          exact absurd H (by simp)
      · rw [if_neg c2] at H
        have c2b0 : decide (x3_1 < (l0.length : Int)) = false := decide_eq_false c2
        clear c2
        obtain rfl := Option.some.inj H
        go_wp2
        repeat (go_quiet (fail); try go_wp2)
        go_ret
        exact ⟨by first | rfl | (simp; done) | (simp [*]; done), by repeat (first | exact Drawn0.refl _ | apply Drawn0.step)⟩

end Go.Proofs.Ytkgajiddcljdjaa.PAll
